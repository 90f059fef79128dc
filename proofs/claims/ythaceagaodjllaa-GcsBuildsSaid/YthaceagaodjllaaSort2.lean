/- The library's sort of uint64s: the heap. Slices of fewer than 2^62. -/
import Derived.Test.YthaceagaodjllaaSort1
namespace Go.Proofs.Ythaceagaodjllaa
open Go.RowKit Go.Sort

theorem sift_end (hi first r : Nat) (d : Array Int) (h : hi ≤ 2 * r + 1) : siftDown ltInt hi first r d = d := by
  rw [siftDown, dif_pos h]
theorem sift_two (hi first r : Nat) (d : Array Int) (h : 2 * r + 2 < hi) (hl : ltInt d[first + (2 * r + 1)]! d[first + (2 * r + 2)]! = true) :
    siftDown ltInt hi first r d = if ltInt d[first + r]! d[first + (2 * r + 2)]! then siftDown ltInt hi first (2 * r + 2) (swp d (first + r) (first + (2 * r + 2))) else d := by
  rw [siftDown, dif_neg (by omega), if_pos (by simp [show 2 * r + 1 + 1 < hi by omega]; exact hl)]
  cases ltInt d[first + r]! d[first + (2 * r + 2)]! <;> simp [h]
theorem sift_one (hi first r : Nat) (d : Array Int) (h : 2 * r + 1 < hi) (hl : 2 * r + 2 < hi → ltInt d[first + (2 * r + 1)]! d[first + (2 * r + 2)]! = false) :
    siftDown ltInt hi first r d = if ltInt d[first + r]! d[first + (2 * r + 1)]! then siftDown ltInt hi first (2 * r + 1) (swp d (first + r) (first + (2 * r + 1))) else d := by
  rw [siftDown, dif_neg (by omega), if_neg (by
    by_cases h2 : 2 * r + 2 < hi
    · have := hl h2
      simp only [Bool.and_eq_true, not_and]
      intro _
      show ¬ ltInt d[first + (2 * r + 1)]! d[first + (2 * r + 2)]! = true
      rw [this]
      decide
    · simp [show ¬ 2 * r + 1 + 1 < hi by omega])]
  cases ltInt d[first + r]! d[first + (2 * r + 1)]! <;> simp

set_option maxRecDepth 100000 in
set_option maxHeartbeats 4000000 in
theorem sift_any (W : World) (base g c n lo hi first : Nat) (d : Array Int) (w : World) (h : Arr W base g c n d w) (hl : lo ≤ n) (hb : first + hi ≤ n) (hn : n < 1152921504606846976) :
    Calls Try.prog 100 #[.slice (some ⟨g, 0, none⟩) n c, .int .i64 lo, .int .i64 hi, .int .i64 first] w fun e w' => e = .returned (.tuple #[]) ∧ Arr W base g c n (siftDown ltInt hi first lo d) w' := by
  generalize hR : siftDown ltInt hi first lo d = R
  have HE := Lib.hid hR
  clear hR
  go_enter Try.func100, Try.ntmps100
  go_wp2_with fail
  go_loopg [8] (hi - lo) (fun m i wx => ∃ (r : Nat) (dk : Array Int), m = hi - r ∧ r ≤ n ∧ i = .int .i64 (r : Int) ∧ Arr W base g c n dk wx ∧ siftDown ltInt hi first r dk = R)
  case atStart => exact ⟨lo, d, rfl, by omega, rfl, h, HE.out⟩
  case round =>
    obtain ⟨r, dk, rfl, hr, rfl, hA, hR⟩ := hrel
    have HR := Lib.hid hR
    clear hR
    by_cases hend : hi ≤ 2 * r + 1
    · have HX : Hid (dk = R) := Lib.hid (by rw [← HR.out, sift_end _ _ _ _ hend])
      go_wp2_with fail
      go_end0
      rw [← HX.out]
      exact ⟨rfl, hA⟩
    · have HA := Lib.hid hA
      by_cases h2 : 2 * r + 2 < hi
      · have hc1 := fun p => (hA.grw p).cell (first + (2 * r + 1)) (by omega)
        have hc2 := fun p => (hA.grw p).cell (first + (2 * r + 1) + 1) (by omega)
        have HS2 := sift_two hi first r dk h2
        have HS1 := sift_one hi first r dk (by omega)
        have e2 : first + (2 * r + 2) = first + (2 * r + 1) + 1 := by omega
        rw [e2] at HS2 HS1
        clear e2
        generalize hy : dk[first + (2 * r + 1)]! = y at *
        generalize hx : dk[first + (2 * r + 1) + 1]! = x at *
        have HY := Lib.hid hy
        have HX := Lib.hid hx
        have HS1 := Lib.hid HS1
        have HS2 := Lib.hid HS2
        clear hy hx hA
        have hg1 : decide (2 * (r : Int) + 1 + 1 < (hi : Int)) = true := by rw [decide_eq_true_eq]; omega
        go_wp2_with fail
        have s1d : IntKind.i64.wrap (2 * (r : Int) + 1 + 1) = 2 * (r : Int) + 1 + 1 := IntWalk.i64_in _ (by omega)
        have i1a : 0 ≤ (first : Int) + (2 * (r : Int) + 1) := by omega
        have i1b : (first : Int) + (2 * (r : Int) + 1) < (n : Int) := by omega
        have i1c : ((first : Int) + (2 * (r : Int) + 1)).toNat = first + (2 * r + 1) := by omega
        have i1d : IntKind.i64.wrap ((first : Int) + (2 * (r : Int) + 1)) = (first : Int) + (2 * (r : Int) + 1) := IntWalk.i64_in _ (by omega)
        have i2a : 0 ≤ (first : Int) + (2 * (r : Int) + 1) + 1 := by omega
        have i2b : (first : Int) + (2 * (r : Int) + 1) + 1 < (n : Int) := by omega
        have i2c : ((first : Int) + (2 * (r : Int) + 1) + 1).toNat = first + (2 * r + 1) + 1 := by omega
        have i2d : IntKind.i64.wrap ((first : Int) + (2 * (r : Int) + 1) + 1) = (first : Int) + (2 * (r : Int) + 1) + 1 := IntWalk.i64_in _ (by omega)
        refine wp_region_grw (by kernel_rfl) (by kernel_rfl) ?_
        repeat (go_big_quiet_step ((go_at_call 71; exact Calls.of_grw_same (less_any _ _ _))))
        refine wpQuiet_nil ?_
        rintro _ ⟨p, rfl⟩
        clear s1d i1a i1b i1c i1d i2a i2b i2c i2d
        refine absw (fun x => Arr W base g c n dk x) (HA.out.grw p) ?_
        rintro wA hA
        clear hc1 hc2 HA
        have HA := Lib.hid hA
        cases hyx : decide (y < x) with
        | true =>
          have HS := Lib.hid (HS2.out hyx)
          clear HS1 HS2
          have hc0 := fun p => (HA.out.grw p).cell (first + r) (by omega)
          have hcc := fun p => (HA.out.grw p).cell (first + (2 * r + 1 + 1)) (by omega)
          generalize hz : dk[first + r]! = z at *
          generalize hv : dk[first + (2 * r + 1 + 1)]! = v at *
          have HZ := Lib.hid hz
          have HVV := Lib.hid hv
          clear hz hv
          (have hvx := HX.out; subst hvx)
          go_wp2_with fail
          have j0a : 0 ≤ (first : Int) + (r : Int) := by omega
          have j0b : (first : Int) + (r : Int) < (n : Int) := by omega
          have j0c : ((first : Int) + (r : Int)).toNat = first + r := by omega
          have j0d : IntKind.i64.wrap ((first : Int) + (r : Int)) = (first : Int) + (r : Int) := IntWalk.i64_in _ (by omega)
          have jca : 0 ≤ (first : Int) + (2 * (r : Int) + 1 + 1) := by omega
          have jcb : (first : Int) + (2 * (r : Int) + 1 + 1) < (n : Int) := by omega
          have jcc : ((first : Int) + (2 * (r : Int) + 1 + 1)).toNat = first + (2 * r + 1 + 1) := by omega
          have jcd : IntKind.i64.wrap ((first : Int) + (2 * (r : Int) + 1 + 1)) = (first : Int) + (2 * (r : Int) + 1 + 1) := IntWalk.i64_in _ (by omega)
          refine wp_region_grw (by kernel_rfl) (by kernel_rfl) ?_
          repeat (go_big_quiet_step ((go_at_call 71; exact Calls.of_grw_same (less_any _ _ _))))
          refine wpQuiet_nil ?_
          rintro _ ⟨p, rfl⟩
          clear j0a j0b j0c j0d jca jcb jcc jcd
          refine absw (fun x => Arr W base g c n dk x) (HA.out.grw p) ?_
          rintro wB hA
          clear hc0 hcc HA
          cases hzv : decide (z < v) with
          | true =>
            have HSV := Lib.hid (HS.out.symm.trans HR.out)
            have HT : Hid (siftDown ltInt hi first (2 * r + 1 + 1) (swp dk (first + r) (first + (2 * r + 1 + 1))) = R) := Lib.hid (by have h := HSV.out; rw [if_pos (show ltInt z _ = true from hzv)] at h; exact h)
            have hc0 := hA.cell (first + r) (by omega)
            have hcc := hA.cell (first + (2 * r + 1 + 1)) (by omega)
            rw [HZ.out] at hc0
            rw [HVV.out] at hcc
            have hf0 := hA.frozen (first + r)
            have hfc := hA.frozen (first + (2 * r + 1 + 1))
            have hne : first + r ≠ first + (2 * r + 1 + 1) := by omega
            clear hzv
            go_wp2_with fail
            have j0a : 0 ≤ (first : Int) + (r : Int) := by omega
            have j0b : (first : Int) + (r : Int) < (n : Int) := by omega
            have j0c : ((first : Int) + (r : Int)).toNat = first + r := by omega
            have j0d : IntKind.i64.wrap ((first : Int) + (r : Int)) = (first : Int) + (r : Int) := IntWalk.i64_in _ (by omega)
            have jca : 0 ≤ (first : Int) + (2 * (r : Int) + 1 + 1) := by omega
            have jcb : (first : Int) + (2 * (r : Int) + 1 + 1) < (n : Int) := by omega
            have jcc : ((first : Int) + (2 * (r : Int) + 1 + 1)).toNat = first + (2 * r + 1 + 1) := by omega
            have jcd : IntKind.i64.wrap ((first : Int) + (2 * (r : Int) + 1 + 1)) = (first : Int) + (2 * (r : Int) + 1 + 1) := IntWalk.i64_in _ (by omega)
            go_region
            clear j0a j0b j0c j0d jca jcb jcc jcd
            go_wp2_with fail
            go_roundg (hi - (2 * r + 1 + 1))
            case measure => omega
            case rel => exact ⟨2 * r + 1 + 1, swp dk (first + r) (first + (2 * r + 1 + 1)), rfl, by omega, int_eq (by omega), hA.swpd HVV.out HZ.out, HT.out⟩
          | false =>
            have HSV := Lib.hid (HS.out.symm.trans HR.out)
            have HT : Hid (dk = R) := Lib.hid (by rw [← HSV.out, if_neg (by rw [← ltInt_b, hzv]; decide)])
            go_wp2_with fail
            first | go_end0 | ((try simp only [Exit.inBlock, Exit.then]); refine bodyPost_ret (results_none rfl _ _ _) rfl ?_)
            rw [← HT.out]
            exact ⟨rfl, hA⟩
        | false =>
          have HS := Lib.hid (HS1.out (fun _ => hyx))
          clear HS1 HS2
          have hc0 := fun p => (HA.out.grw p).cell (first + r) (by omega)
          have hcc := fun p => (HA.out.grw p).cell (first + (2 * r + 1)) (by omega)
          generalize hz : dk[first + r]! = z at *
          generalize hv : dk[first + (2 * r + 1)]! = v at *
          have HZ := Lib.hid hz
          have HVV := Lib.hid hv
          clear hz hv
          (have hvx := HY.out; subst hvx)
          go_wp2_with fail
          have j0a : 0 ≤ (first : Int) + (r : Int) := by omega
          have j0b : (first : Int) + (r : Int) < (n : Int) := by omega
          have j0c : ((first : Int) + (r : Int)).toNat = first + r := by omega
          have j0d : IntKind.i64.wrap ((first : Int) + (r : Int)) = (first : Int) + (r : Int) := IntWalk.i64_in _ (by omega)
          have jca : 0 ≤ (first : Int) + (2 * (r : Int) + 1) := by omega
          have jcb : (first : Int) + (2 * (r : Int) + 1) < (n : Int) := by omega
          have jcc : ((first : Int) + (2 * (r : Int) + 1)).toNat = first + (2 * r + 1) := by omega
          have jcd : IntKind.i64.wrap ((first : Int) + (2 * (r : Int) + 1)) = (first : Int) + (2 * (r : Int) + 1) := IntWalk.i64_in _ (by omega)
          refine wp_region_grw (by kernel_rfl) (by kernel_rfl) ?_
          repeat (go_big_quiet_step ((go_at_call 71; exact Calls.of_grw_same (less_any _ _ _))))
          refine wpQuiet_nil ?_
          rintro _ ⟨p, rfl⟩
          clear j0a j0b j0c j0d jca jcb jcc jcd
          refine absw (fun x => Arr W base g c n dk x) (HA.out.grw p) ?_
          rintro wB hA
          clear hc0 hcc HA
          cases hzv : decide (z < v) with
          | true =>
            have HSV := Lib.hid (HS.out.symm.trans HR.out)
            have HT : Hid (siftDown ltInt hi first (2 * r + 1) (swp dk (first + r) (first + (2 * r + 1))) = R) := Lib.hid (by have h := HSV.out; rw [if_pos (show ltInt z _ = true from hzv)] at h; exact h)
            have hc0 := hA.cell (first + r) (by omega)
            have hcc := hA.cell (first + (2 * r + 1)) (by omega)
            rw [HZ.out] at hc0
            rw [HVV.out] at hcc
            have hf0 := hA.frozen (first + r)
            have hfc := hA.frozen (first + (2 * r + 1))
            have hne : first + r ≠ first + (2 * r + 1) := by omega
            clear hzv
            go_wp2_with fail
            have j0a : 0 ≤ (first : Int) + (r : Int) := by omega
            have j0b : (first : Int) + (r : Int) < (n : Int) := by omega
            have j0c : ((first : Int) + (r : Int)).toNat = first + r := by omega
            have j0d : IntKind.i64.wrap ((first : Int) + (r : Int)) = (first : Int) + (r : Int) := IntWalk.i64_in _ (by omega)
            have jca : 0 ≤ (first : Int) + (2 * (r : Int) + 1) := by omega
            have jcb : (first : Int) + (2 * (r : Int) + 1) < (n : Int) := by omega
            have jcc : ((first : Int) + (2 * (r : Int) + 1)).toNat = first + (2 * r + 1) := by omega
            have jcd : IntKind.i64.wrap ((first : Int) + (2 * (r : Int) + 1)) = (first : Int) + (2 * (r : Int) + 1) := IntWalk.i64_in _ (by omega)
            go_region
            clear j0a j0b j0c j0d jca jcb jcc jcd
            go_wp2_with fail
            go_roundg (hi - (2 * r + 1))
            case measure => omega
            case rel => exact ⟨2 * r + 1, swp dk (first + r) (first + (2 * r + 1)), rfl, by omega, int_eq (by omega), hA.swpd HVV.out HZ.out, HT.out⟩
          | false =>
            have HSV := Lib.hid (HS.out.symm.trans HR.out)
            have HT : Hid (dk = R) := Lib.hid (by rw [← HSV.out, if_neg (by rw [← ltInt_b, hzv]; decide)])
            go_wp2_with fail
            first | go_end0 | ((try simp only [Exit.inBlock, Exit.then]); refine bodyPost_ret (results_none rfl _ _ _) rfl ?_)
            rw [← HT.out]
            exact ⟨rfl, hA⟩
      · have HS := Lib.hid (sift_one hi first r dk (by omega) (fun h => absurd h h2))
        have hg1 : decide (2 * (r : Int) + 1 + 1 < (hi : Int)) = false := by rw [decide_eq_false_iff_not]; omega
        clear hA
        go_wp2_with fail
        have s1d : IntKind.i64.wrap (2 * (r : Int) + 1 + 1) = 2 * (r : Int) + 1 + 1 := IntWalk.i64_in _ (by omega)
        refine wp_region_grw (by kernel_rfl) (by kernel_rfl) ?_
        repeat (go_big_quiet_step ((go_at_call 71; exact Calls.of_grw_same (less_any _ _ _))))
        refine wpQuiet_nil ?_
        rintro _ ⟨p, rfl⟩
        clear s1d
        refine absw (fun x => Arr W base g c n dk x) (HA.out.grw p) ?_
        rintro wA hA
        clear HA
        have HA := Lib.hid hA
        have hc0 := fun p => (HA.out.grw p).cell (first + r) (by omega)
        have hcc := fun p => (HA.out.grw p).cell (first + (2 * r + 1)) (by omega)
        generalize hz : dk[first + r]! = z at *
        generalize hv : dk[first + (2 * r + 1)]! = v at *
        have HZ := Lib.hid hz
        have HVV := Lib.hid hv
        clear hz hv
        skip
        go_wp2_with fail
        have j0a : 0 ≤ (first : Int) + (r : Int) := by omega
        have j0b : (first : Int) + (r : Int) < (n : Int) := by omega
        have j0c : ((first : Int) + (r : Int)).toNat = first + r := by omega
        have j0d : IntKind.i64.wrap ((first : Int) + (r : Int)) = (first : Int) + (r : Int) := IntWalk.i64_in _ (by omega)
        have jca : 0 ≤ (first : Int) + (2 * (r : Int) + 1) := by omega
        have jcb : (first : Int) + (2 * (r : Int) + 1) < (n : Int) := by omega
        have jcc : ((first : Int) + (2 * (r : Int) + 1)).toNat = first + (2 * r + 1) := by omega
        have jcd : IntKind.i64.wrap ((first : Int) + (2 * (r : Int) + 1)) = (first : Int) + (2 * (r : Int) + 1) := IntWalk.i64_in _ (by omega)
        refine wp_region_grw (by kernel_rfl) (by kernel_rfl) ?_
        repeat (go_big_quiet_step ((go_at_call 71; exact Calls.of_grw_same (less_any _ _ _))))
        refine wpQuiet_nil ?_
        rintro _ ⟨p, rfl⟩
        clear j0a j0b j0c j0d jca jcb jcc jcd
        refine absw (fun x => Arr W base g c n dk x) (HA.out.grw p) ?_
        rintro wB hA
        clear hc0 hcc HA
        cases hzv : decide (z < v) with
        | true =>
          have HSV := Lib.hid (HS.out.symm.trans HR.out)
          have HT : Hid (siftDown ltInt hi first (2 * r + 1) (swp dk (first + r) (first + (2 * r + 1))) = R) := Lib.hid (by have h := HSV.out; rw [if_pos (show ltInt z _ = true from hzv)] at h; exact h)
          have hc0 := hA.cell (first + r) (by omega)
          have hcc := hA.cell (first + (2 * r + 1)) (by omega)
          rw [HZ.out] at hc0
          rw [HVV.out] at hcc
          have hf0 := hA.frozen (first + r)
          have hfc := hA.frozen (first + (2 * r + 1))
          have hne : first + r ≠ first + (2 * r + 1) := by omega
          clear hzv
          go_wp2_with fail
          have j0a : 0 ≤ (first : Int) + (r : Int) := by omega
          have j0b : (first : Int) + (r : Int) < (n : Int) := by omega
          have j0c : ((first : Int) + (r : Int)).toNat = first + r := by omega
          have j0d : IntKind.i64.wrap ((first : Int) + (r : Int)) = (first : Int) + (r : Int) := IntWalk.i64_in _ (by omega)
          have jca : 0 ≤ (first : Int) + (2 * (r : Int) + 1) := by omega
          have jcb : (first : Int) + (2 * (r : Int) + 1) < (n : Int) := by omega
          have jcc : ((first : Int) + (2 * (r : Int) + 1)).toNat = first + (2 * r + 1) := by omega
          have jcd : IntKind.i64.wrap ((first : Int) + (2 * (r : Int) + 1)) = (first : Int) + (2 * (r : Int) + 1) := IntWalk.i64_in _ (by omega)
          go_region
          clear j0a j0b j0c j0d jca jcb jcc jcd
          go_wp2_with fail
          go_roundg (hi - (2 * r + 1))
          case measure => omega
          case rel => exact ⟨2 * r + 1, swp dk (first + r) (first + (2 * r + 1)), rfl, by omega, int_eq (by omega), hA.swpd HVV.out HZ.out, HT.out⟩
        | false =>
          have HSV := Lib.hid (HS.out.symm.trans HR.out)
          have HT : Hid (dk = R) := Lib.hid (by rw [← HSV.out, if_neg (by rw [← ltInt_b, hzv]; decide)])
          go_wp2_with fail
          first | go_end0 | ((try simp only [Exit.inBlock, Exit.then]); refine bodyPost_ret (results_none rfl _ _ _) rfl ?_)
          rw [← HT.out]
          exact ⟨rfl, hA⟩
theorem sift_at (W : World) (base g c n lo hi first : Nat) (l x : Int) (d : Array Int) (w : World) (h : Arr W base g c n d w) (hll : l = (lo : Int)) (hx : x = (hi : Int)) (hl : lo ≤ n) (hb : first + hi ≤ n) (hn : n < 1152921504606846976) :
    Calls Try.prog 100 #[.slice (some ⟨g, 0, none⟩) n c, .int .i64 l, .int .i64 x, .int .i64 first] w fun e w' => e = .returned (.tuple #[]) ∧ Arr W base g c n (siftDown ltInt hi first lo d) w' := by
  subst hll hx
  exact sift_any W base g c n lo hi first d w h hl hb hn
theorem sift_size (hi first r : Nat) (d : Array Int) : (siftDown ltInt hi first r d).size = d.size := by
  fun_induction siftDown ltInt hi first r d <;> simp_all [swp_size]

set_option maxRecDepth 100000 in
set_option maxHeartbeats 4000000 in
theorem heap_any (W : World) (base g c n a b : Nat) (d : Array Int) (w : World) (h : Arr W base g c n d w) (hab : a < b) (hb : b ≤ n) (hn : n < 1152921504606846976) :
    Calls Try.prog 90 #[.slice (some ⟨g, 0, none⟩) n c, .int .i64 a, .int .i64 b] w fun e w' => e = .returned (.tuple #[]) ∧ Arr W base g c n (heapSort ltInt d a b) w' := by
  generalize hR : heapSort ltInt d a b = R
  have hR2 : heapPop ltInt a (b - a) (heapBuild ltInt (b - a) a ((b - a - 1) / 2 + 1) d) = R := hR
  have HE := Lib.hid hR2
  clear hR hR2
  go_enter Try.func90, Try.ntmps90
  go_wp2_with fail
  go_loopg [9] ((b - a - 1) / 2 + 1) (fun k i wx => ∃ dk : Array Int, k ≤ b - a ∧ i = .int .i64 ((k : Int) - 1) ∧ Arr W base g c n dk wx ∧ heapPop ltInt a (b - a) (heapBuild ltInt (b - a) a k dk) = R)
  case atStart => exact ⟨d, by omega, int_eq (by omega), h, HE.out⟩
  case round =>
    obtain ⟨dk, hk, rfl, hA, hR⟩ := hrel
    have HR := Lib.hid hR
    clear hR
    rcases Nat.eq_zero_or_pos gk with h0 | h0
    · subst h0
      have HP : Hid (heapPop ltInt a (b - a) dk = R) := Lib.hid (by rw [← HR.out, heapBuild])
      clear HR
      go_wp2_with fail
      go_loopg [10] (b - a) (fun k i wx => ∃ dk : Array Int, k ≤ b - a ∧ i = .int .i64 ((k : Int) - 1) ∧ Arr W base g c n dk wx ∧ heapPop ltInt a k dk = R)
      case atStart => exact ⟨dk, by omega, int_eq (by omega), hA, HP.out⟩
      case round =>
        obtain ⟨dq, hq, rfl, hQ, hR⟩ := hrel
        have HR := Lib.hid hR
        clear hR hA
        rcases Nat.eq_zero_or_pos gk with h0 | h0
        · subst h0
          have HX : Hid (dq = R) := Lib.hid (by rw [← HR.out, heapPop])
          go_wp2_with fail
          first | go_end0 | ((try simp only [Exit.inBlock, Exit.then]); refine bodyPost_ret (results_none rfl _ _ _) rfl ?_)
          rw [← HX.out]
          exact ⟨rfl, hQ⟩
        · obtain ⟨q, rfl⟩ : ∃ q, gk = q + 1 := ⟨gk - 1, by omega⟩
          have HX : Hid (heapPop ltInt a q (siftDown ltInt q a 0 (swp dq a (a + q))) = R) := Lib.hid (by rw [← HR.out, heapPop])
          have hc0 := hQ.cell a (by omega)
          have hcq := hQ.cell (a + q) (by omega)
          have hf0 := hQ.frozen a
          have hfq := hQ.frozen (a + q)
          generalize hx : dq[a]! = x at *
          generalize hy : dq[a + q]! = y at *
          have HXX := Lib.hid hx
          have HYY := Lib.hid hy
          clear hx hy
          rcases Nat.eq_zero_or_pos q with hq0 | hq0
          · subst hq0
            rw [Nat.add_zero] at hcq hfq
            have e : x = y := by have := HXX.out.symm.trans HYY.out; exact this
            subst e
            clear hcq hfq
            go_wp2_with fail
            go_region
            go_wp2_with fail
            have hs := hQ.swpd (i := a) (j := a) HXX.out HXX.out
            refine (sift_at W base g c n 0 0 a 0 0 _ _ hs rfl rfl (by omega) (by omega) hn).mono ?_
            rintro e w2 ⟨rfl, hA2⟩
            go_wp2_with fail
            go_roundg 0
            case measure => omega
            case rel => exact ⟨_, by omega, int_eq (by omega), hA2, HX.out⟩
          · have hne : a ≠ a + q := by omega
            go_wp2_with fail
            go_region
            go_wp2_with fail
            have hs := hQ.swpd (i := a) (j := a + q) HYY.out HXX.out
            refine (sift_at W base g c n 0 q a 0 _ _ _ hs rfl (by omega) (by omega) (by omega) hn).mono ?_
            rintro e w2 ⟨rfl, hA2⟩
            go_wp2_with fail
            go_roundg q
            case measure => omega
            case rel => exact ⟨_, by omega, int_eq (by omega), hA2, HX.out⟩
    · obtain ⟨k, rfl⟩ : ∃ k, gk = k + 1 := ⟨gk - 1, by omega⟩
      have HX : Hid (heapPop ltInt a (b - a) (heapBuild ltInt (b - a) a k (siftDown ltInt (b - a) a k dk)) = R) := Lib.hid (by rw [← HR.out, heapBuild])
      clear HR
      go_wp2_with fail
      refine (sift_at W base g c n k (b - a) a _ _ _ _ hA (by omega) (by omega) (by omega) (by omega) hn).mono ?_
      rintro e w2 ⟨rfl, hA2⟩
      go_wp2_with fail
      go_roundg k
      case measure => omega
      case rel => exact ⟨_, by omega, int_eq (by omega), hA2, HX.out⟩

set_option maxRecDepth 100000 in
set_option maxHeartbeats 4000000 in
theorem rev_any (W : World) (base g c n a b : Nat) (d : Array Int) (w : World) (h : Arr W base g c n d w) (hab : a < b) (hb : b ≤ n) (hn : n < 1152921504606846976) :
    Calls Try.prog 93 #[.slice (some ⟨g, 0, none⟩) n c, .int .i64 a, .int .i64 b] w fun e w' => e = .returned (.tuple #[]) ∧ Arr W base g c n (reverseRange d a b) w' := by
  generalize hR : reverseRange d a b = R
  have hR2 : reverseLoop a (b - 1) d = R := hR
  have HE := Lib.hid hR2
  clear hR hR2
  go_enter Try.func93, Try.ntmps93
  go_wp2_with fail
  go_loopg [6, 7] (b - 1 - a) (fun k i j wx => ∃ (x y : Nat) (dk : Array Int), k = y - x ∧ x ≤ y + 1 ∧ x < b ∧ y < b ∧ i = .int .i64 (x : Int) ∧ j = .int .i64 (y : Int) ∧ Arr W base g c n dk wx ∧ reverseLoop x y dk = R)
  case atStart => exact ⟨a, b - 1, d, rfl, by omega, by omega, by omega, rfl, int_eq (by omega), h, HE.out⟩
  case round =>
    obtain ⟨x, y, dk, rfl, hxy, hx, hy, rfl, rfl, hA, hR⟩ := hrel
    have HR := Lib.hid hR
    clear hR
    by_cases hlt : x < y
    · have HX : Hid (reverseLoop (x + 1) (y - 1) (swp dk x y) = R) := Lib.hid (by rw [← HR.out]; conv => rhs; rw [reverseLoop, if_pos hlt])
      have hcx := hA.cell x (by omega)
      have hcy := hA.cell y (by omega)
      have hfx := hA.frozen x
      have hfy := hA.frozen y
      generalize hu : dk[x]! = u at *
      generalize hv : dk[y]! = v at *
      have HU := Lib.hid hu
      have HV := Lib.hid hv
      clear hu hv
      have hne : x ≠ y := by omega
      go_wp2_with fail
      go_region
      go_wp2_with fail
      go_roundg (y - 1 - (x + 1))
      case measure => omega
      case rel => exact ⟨x + 1, y - 1, swp dk x y, rfl, by omega, by omega, by omega, by go_num, int_eq (by omega), hA.swpd HV.out HU.out, HX.out⟩
    · have HX : Hid (dk = R) := Lib.hid (by rw [← HR.out, reverseLoop, if_neg hlt])
      go_wp2_with fail
      first | go_end0 | ((try simp only [Exit.inBlock, Exit.then]); refine bodyPost_ret (results_none rfl _ _ _) rfl ?_)
      rw [← HX.out]
      exact ⟨rfl, hA⟩
end Go.Proofs.Ythaceagaodjllaa
