/- The library's sort of uint64s: the words; the insertion sort. Slices of fewer than 2^62. -/
import Derived.Test.YthaceagaodjllaaAny
import Derived.BigQuiet
import Derived.Sort.AssemblyPlain
import Derived.Laws.OwnMore
import Derived.IntWalk
import Derived.RegionTactic
import Derived.BigRegion
namespace Go.Proofs.Ythaceagaodjllaa
open Go.RowKit Go.Sort

/-- In the world w block g holds the array d, of the call's own; of what W held nothing else has turned. -/
structure Arr (W : World) (base g c n : Nat) (d : Array Int) (w : World) : Prop where
  own : w.ownsRow base 22 1 (.slice (some ⟨g, 0, none⟩) n c) n (u64s d.toList)
  gr : W.grownBy w (some g)
  sz : d.size = n
section
variable {W w w' : World} {base g c n : Nat} {d : Array Int}
theorem Arr.lt (h : Arr W base g c n d w) : g < w.heap.size := (h.own.lt g rfl).2
theorem Arr.cell (h : Arr W base g c n d w) (j : Nat) (hj : j < n) : w.cell? ⟨g, j, none⟩ = some (.int .u64 d[j]!) := by
  have hs := h.sz
  rw [h.own.cellAt j (by omega), List.getElem?_eq_getElem (by simp; omega), u64s_get _ _ (by simp; omega), getElem!_pos d j (by omega)]
  simp
theorem Arr.frozen (h : Arr W base g c n d w) (j : Nat) : w.frozen? ⟨g, j, none⟩ = false := h.own.frozenAt j
theorem Arr.up (h : Arr W base g c n d w) (hb : Below w.heap.size w w') : Arr W base g c n d w' := ⟨own_up h.own hb, gr_trans h.gr (gr_below hb), h.sz⟩
theorem Arr.grw (h : Arr W base g c n d w) (p : Grw) : Arr W base g c n d (grw w p) := h.up (below_grw w p)
theorem Arr.put (h : Arr W base g c n d w) (i : Nat) (x : Int) : Arr W base g c n (d.setIfInBounds i x) (w.setCell ⟨g, i, none⟩ (.int .u64 x)) := ⟨by
  have := (h.own.stored i (.int .u64 x)).1
  rw [Array.toList_setIfInBounds]
  rwa [show u64s (d.toList.set i x) = (u64s d.toList).set i (.int .u64 x) from List.map_set ..], gr_trans h.gr (gr_set w i _), by simpa using h.sz⟩
theorem Arr.swap2 (h : Arr W base g c n d w) (i j : Nat) : Arr W base g c n (swp d i j) ((w.setCell ⟨g, i, none⟩ (.int .u64 d[j]!)).setCell ⟨g, j, none⟩ (.int .u64 d[i]!)) := (h.put i _).put j _
theorem Arr.drew (h : Arr W base g c n d w) : Arr W base g c n d w.drew := h.up (by (repeat' (first | (with_reducible exact Below.refl _ _) | (with_reducible assumption) | (with_reducible refine Below.alloc ?_ ?_ _) | (with_reducible refine Below.drew ?_) | (with_reducible refine below_drewN ?_ _) | (with_reducible refine Below.setCell ?_ ?_ _) | (first | (with_reducible exact Nat.le_refl _) | (with_reducible assumption) | omega | (simp; omega) | (simp; done)))))
theorem Arr.swpd (h : Arr W base g c n d w) {i j : Nat} {x y : Int} (hx : d[j]! = x) (hy : d[i]! = y) : Arr W base g c n (swp d i j) ((w.setCell ⟨g, i, none⟩ (.int .u64 x)).setCell ⟨g, j, none⟩ (.int .u64 y)).drew := by
  subst hx hy
  exact (h.swap2 i j).drew
end
theorem swp_size (d : Array Int) (i j : Nat) : (swp d i j).size = d.size := by simp [swp]
theorem insOut_go (a b k : Nat) (d : Array Int) (h : k < b) : insOuter ltInt a b k d = insOuter ltInt a b (k + 1) (insInner ltInt a k d) := by rw [insOuter, if_pos h]
theorem ltInt_b (x y : Int) : decide (x < y) = ltInt x y := rfl

set_option maxRecDepth 100000 in
set_option maxHeartbeats 4000000 in
theorem ins_any (W : World) (base g c n a b : Nat) (d : Array Int) (w : World) (h : Arr W base g c n d w) (hab : a ≤ b) (hb : b ≤ n) (hn : n < 4611686018427387904) :
    Calls Try.prog 89 #[.slice (some ⟨g, 0, none⟩) n c, .int .i64 a, .int .i64 b] w fun e w' => e = .returned (.tuple #[]) ∧ Arr W base g c n (insertionSort ltInt d a b) w' := by
  have HE : Hid (insOuter ltInt a b (a + 1) d = insertionSort ltInt d a b) := rfl
  generalize insertionSort ltInt d a b = R at *
  go_enter Try.func89, Try.ntmps89
  go_wp2_with fail
  go_loopg [6] (b - (a + 1)) (fun m i wx => ∃ (k : Nat) (dk : Array Int), m = b - k ∧ a + 1 ≤ k ∧ i = .int .i64 (k : Int) ∧ Arr W base g c n dk wx ∧ insOuter ltInt a b k dk = R)
  case atStart => exact ⟨a + 1, d, rfl, by omega, by go_num, h, HE.out⟩
  case round =>
    obtain ⟨k, dk, rfl, hk, rfl, hA, hR⟩ := hrel
    have HR := Lib.hid hR
    clear hR
    by_cases hkb : k < b
    · go_wp2_with fail
      obtain ⟨wo, hwo⟩ : ∃ wo : World, wo = wr := ⟨_, rfl⟩
      subst hwo
      go_loopg [7] (k - a) (fun m j wx => ∃ (q : Nat) (dq : Array Int), m = q - a ∧ a ≤ q ∧ q ≤ k ∧ j = .int .i64 (q : Int) ∧ Arr W base g c n dq wx ∧ insInner ltInt a q dq = insInner ltInt a k dk)
      case atStart => exact ⟨k, dk, rfl, by omega, by omega, rfl, hA, rfl⟩
      case round =>
        obtain ⟨q, dq, rfl, hq, hqk, rfl, hQ, hI⟩ := hrel
        have HI := Lib.hid hI
        have HA := Lib.hid hA
        clear hA hI
        by_cases hqa : a < q
        · obtain ⟨r, rfl⟩ : ∃ r, q = r + 1 := ⟨q - 1, by omega⟩
          have hstep : insInner ltInt a (r + 1) dq = if ltInt dq[r + 1]! dq[r]! then insInner ltInt a r (swp dq (r + 1) r) else dq := by
            rw [insInner]
            simp [show r + 1 > a by omega]
          have HS := Lib.hid hstep
          clear hstep
          have hc1 := fun p => (hQ.grw p).cell (r + 1) (by omega)
          have hc0 := fun p => (hQ.grw p).cell r (by omega)
          have hf1 := fun p => (hQ.grw p).frozen (r + 1)
          have hf0 := fun p => (hQ.grw p).frozen r
          have hja : decide ((a : Int) < (r : Int) + 1) = true := by rw [decide_eq_true_eq]; omega
          have hjb : decide (a < r + 1) = true := by rw [decide_eq_true_eq]; omega
          have HQ := Lib.hid hQ
          generalize hy : dq[r + 1]! = y at *
          generalize hx : dq[r]! = x at *
          have HY := Lib.hid hy
          have HX := Lib.hid hx
          clear hy hx
          go_wp2_with fail
          have hwr : IntKind.i64.wrap (r : Int) = (r : Int) := IntWalk.i64_in _ (by omega)
          refine wp_region_grw (by kernel_rfl) (by kernel_rfl) ?_
          repeat (go_big_quiet_step ((go_at_call 71; exact Calls.of_grw_same (less_any _ _ _))))
          refine wpQuiet_nil ?_
          rintro _ ⟨p, rfl⟩
          clear hwr hc1 hc0 hf1 hf0
          refine absw (fun x => Arr W base g c n dq x) (HQ.out.grw p) ?_
          rintro wA hQA
          clear hQ HQ
          cases hyx : decide (y < x) with
          | true =>
            have hc1 := hQA.cell (r + 1) (by omega)
            have hc0 := hQA.cell r (by omega)
            rw [HY.out] at hc1
            rw [HX.out] at hc0
            have hf1 := hQA.frozen (r + 1)
            have hf0 := hQA.frozen r
            go_wp2_with fail
            go_region
            go_wp2_with fail
            go_roundg (r - a)
            case measure => omega
            case rel => exact ⟨r, swp dq (r + 1) r, rfl, by omega, by omega, int_eq (by omega), hQA.swpd HX.out HY.out, by rw [← HI.out, HS.out, if_pos (show ltInt y x = true from hyx)]⟩
          | false =>
            have HOUT : Hid (insOuter ltInt a b (k + 1) dq = R) := Lib.hid (by rw [← HR.out, insOut_go _ _ _ _ hkb, ← HI.out, HS.out, if_neg (by rw [← ltInt_b, hyx]; decide)])
            go_wp2_with fail
            go_roundg (b - (k + 1))
            case measure => omega
            case rel => exact ⟨k + 1, dq, rfl, by omega, by go_num, hQA, HOUT.out⟩
        · have hstop : insInner ltInt a q dq = dq := by
            cases q with
            | zero => rw [insInner]
            | succ r => rw [insInner]; simp; omega
          have HOUT : Hid (insOuter ltInt a b (k + 1) dq = R) := Lib.hid (by rw [← HR.out, insOut_go _ _ _ _ hkb, ← HI.out, hstop])
          have hja : decide ((a : Int) < (q : Int)) = false := by rw [decide_eq_false_iff_not]; omega
          have hjb : decide (a < q) = false := by rw [decide_eq_false_iff_not]; exact hqa
          clear hstop hqa
          go_wp2_with fail
          refine wp_region_grw (by kernel_rfl) (by kernel_rfl) ?_
          repeat (go_big_quiet_step (fail))
          refine wpQuiet_nil ?_
          rintro _ ⟨p, rfl⟩
          go_wp2_with fail
          go_roundg (b - (k + 1))
          case measure => omega
          case rel => exact ⟨k + 1, dq, rfl, by omega, by go_num, hQ.grw p, HOUT.out⟩
    · have HOUT : Hid (dk = R) := Lib.hid (by rw [← HR.out, insOuter, if_neg hkb])
      go_wp2_with fail
      go_end0
      rw [← HOUT.out]
      exact ⟨rfl, hA⟩
end Go.Proofs.Ythaceagaodjllaa
