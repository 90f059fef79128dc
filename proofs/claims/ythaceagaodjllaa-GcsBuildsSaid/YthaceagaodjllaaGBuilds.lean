/- The law GcsBuilds, walked: it answers true. No condition but the reading's own. -/
import Derived.Test.YthaceagaodjllaaBuild13
import Derived.Test.YthaceagaodjllaaGAny
import Derived.Test.YthaceagaodjllaaSort6
namespace Go.Proofs.Ythaceagaodjllaa
open Go.RowKit

set_option maxRecDepth 100000 in
set_option maxHeartbeats 4000000 in
theorem builds_any (k0 k1 : Int) (A : Option Addr) (c : Nat) (vs : List Value) (ls : List (List UInt8)) (w : World) (hrd : Rd w w.heap.size A vs) (hvs : Tvs w w.heap.size vs ls) (hl : ls.length ≤ 9223372036854775807) :
    Calls Try.prog 3 #[.agg #[.int .u64 k0, .int .u64 k1], .slice A ls.length c] w fun e w' => e = .returned (.bool true) ∧ Below w.heap.size w w' := by
  have hbA : Below w.heap.size w (w.alloc (.cells #[.int .u64 k0, .int .u64 k1] 23)) := by (repeat' (first | (with_reducible exact Below.refl _ _) | (with_reducible assumption) | (with_reducible refine Below.alloc ?_ ?_ _) | (with_reducible refine Below.drew ?_) | (with_reducible refine below_drewN ?_ _) | (with_reducible refine Below.setCell ?_ ?_ _) | (first | (with_reducible exact Nat.le_refl _) | (with_reducible assumption) | omega | (simp; omega) | (simp; done))))
  have hsmall := small_any A c vs ls (w.alloc (.cells #[.int .u64 k0, .int .u64 k1] 23)) ((hrd.below hbA).more (by simp)) ((hvs.below hbA).more (by simp)) hl
  cases hsb : smallB ls with
  | false =>
    rw [hsb] at hsmall
    have HS := Lib.hid hsmall
    clear hsmall hsb
    go_enter Try.func3, Try.ntmps3
    go_wp2_with fail
    refine HS.out.mono ?_
    rintro e _ ⟨rfl, rfl⟩
    go_wp2_with fail
    refine (awake_any _).mono ?_
    rintro e w1 ⟨rfl, hb1⟩
    go_wp2_with fail
    go_ret
    exact ⟨rfl, hbA.trans (hb1.mono hbA.size)⟩
  | true =>
    rw [hsb] at hsmall
    have HS := Lib.hid hsmall
    have hll := smallB_len ls hsb
    have HTS : Hid (∀ t ∈ ls, t.length ≤ 65536) := Lib.hid (fun t ht => by
      obtain ⟨q, hq, rfl⟩ := List.getElem_of_mem ht
      have := smallB_each ls hsb q hq
      omega)
    clear hsmall hsb
    have hol := onceL_length ls
    have hrowA : Row (w.alloc (.cells #[.int .u64 k0, .int .u64 k1] 23)) w.heap.size 23 [.int .u64 k0, .int .u64 k1] := Row.new w _ [.int .u64 k0, .int .u64 k1]
    have hbuild := build_any k0 k1 A c vs ls (w.alloc (.cells #[.int .u64 k0, .int .u64 k1] 23)) ((hrd.below hbA).more (by simp)) ((hvs.below hbA).more (by simp)) (by omega) (sort_ok _ (by omega))
    rw [buildL_ok k0 k1 ls (by omega)] at hbuild
    have HB := Lib.hid hbuild
    have h13 : ∀ A1 c1 w1, Rd w1 w1.heap.size A1 (strs ls) → _ := fun A1 c1 w1 h => build13_any k0 k1 A1 c1 ls w1 h (by omega) HTS.out
    have H13 := Lib.hid h13
    have hbl := buildL_length k0 k1 ls
    clear hbuild h13 HTS
    generalize (buildL k0 k1 ls).1 = bs at *
    go_enter Try.func3, Try.ntmps3
    have hcr := hrowA.cell
    go_wp2_with fail
    refine HS.out.mono ?_
    rintro e _ ⟨rfl, rfl⟩
    go_wp2_with fail
    refine HB.out.mono ?_
    rintro e w1 ⟨A1, c1, rfl, hown1, hb1⟩
    have hrow1 := hrowA.below hb1 hrowA.lt
    have hbl1 := hbA.trans (hb1.mono hbA.size)
    have hown1' := own_base (base' := w.heap.size + 1) hown1 (by simp)
    clear hrowA hbA hb1 hown1 HS HB hcr
    go_wp2_with fail
    have hbl2 : Below w.heap.size w (w1.drewN 1) := by (repeat' (first | (with_reducible exact Below.refl _ _) | (with_reducible assumption) | (with_reducible refine Below.alloc ?_ ?_ _) | (with_reducible refine Below.drew ?_) | (with_reducible refine below_drewN ?_ _) | (with_reducible refine Below.setCell ?_ ?_ _) | (first | (with_reducible exact Nat.le_refl _) | (with_reducible assumption) | omega | (simp; omega) | (simp; done))))
    have hrow2 := hrow1.drewN 1
    have hown2 : (w1.drewN 1).ownsRow (w.heap.size + 1) 5 1 (.slice A1 bs.length c1) bs.length (u8s bs) := own_up hown1' (by (repeat' (first | (with_reducible exact Below.refl _ _) | (with_reducible assumption) | (with_reducible refine Below.alloc ?_ ?_ _) | (with_reducible refine Below.drew ?_) | (with_reducible refine below_drewN ?_ _) | (with_reducible refine Below.setCell ?_ ?_ _) | (first | (with_reducible exact Nat.le_refl _) | (with_reducible assumption) | omega | (simp; omega) | (simp; done)))))
    clear hrow1 hown1' hbl1
    refine wp_region_plan 9 [(0, true), (1, true), (2, true), (3, true), (4, true), (5, true), (6, true), (7, false), (8, false)] [(9, true), (10, true), (11, true), (12, false), (13, true), (14, false)] (fun x => Row x w.heap.size 23 [.int .u64 k0, .int .u64 k1] ∧ x.ownsRow (w.heap.size + 1) 5 1 (.slice A1 bs.length c1) bs.length (u8s bs)) (fun _ => True) (by kernel_rfl) (by kernel_rfl) ⟨hrow2, hown2⟩ ?_
    refine ⟨_, ?_, rfl, Or.inl ⟨by rfl, ?_⟩, ?_⟩
    rotate_left
    · intro wS hSw
      skip
      go_simp
      try with_reducible rfl
    simp only [Act.put, List.setIfInBounds_toArray, List.set_cons_zero, List.set_cons_succ]
    refine ⟨_, ?_, rfl, Or.inl ⟨by rfl, ?_⟩, ?_⟩
    rotate_left
    · intro wS hSw
      skip
      go_simp
      try with_reducible rfl
    simp only [Act.put, List.setIfInBounds_toArray, List.set_cons_zero, List.set_cons_succ]
    refine ⟨_, ?_, rfl, Or.inl ⟨by rfl, ?_⟩, ?_⟩
    rotate_left
    · intro wS hSw
      skip
      go_simp
      try with_reducible rfl
    simp only [Act.put, List.setIfInBounds_toArray, List.set_cons_zero, List.set_cons_succ]
    refine ⟨_, ?_, rfl, Or.inl ⟨by rfl, ?_⟩, ?_⟩
    rotate_left
    · intro wS hSw
      skip
      go_simp
      try with_reducible rfl
    simp only [Act.put, List.setIfInBounds_toArray, List.set_cons_zero, List.set_cons_succ]
    refine ⟨_, ?_, rfl, Or.inl ⟨by rfl, ?_⟩, ?_⟩
    rotate_left
    · intro wS hSw
      have hcv := run_back (P := Try.prog) 27 9 5 (c := c1) Try.underlying27 Try.underlying5 Try.underlying9 (own_rd hSw.2)
      go_simp
      try with_reducible rfl
    simp only [Act.put, List.setIfInBounds_toArray, List.set_cons_zero, List.set_cons_succ]
    refine ⟨_, ?_, rfl, Or.inl ⟨by rfl, ?_⟩, ?_⟩
    rotate_left
    · intro wS hSw
      have hcS := hSw.1.cell
      go_simp
      try with_reducible rfl
    simp only [Act.put, List.setIfInBounds_toArray, List.set_cons_zero, List.set_cons_succ]
    refine ⟨_, ?_, rfl, Or.inl ⟨by rfl, ?_⟩, ?_⟩
    rotate_left
    · intro wS hSw
      skip
      go_simp
      try with_reducible rfl
    simp only [Act.put, List.setIfInBounds_toArray, List.set_cons_zero, List.set_cons_succ]
    refine ⟨_, rfl, ?_⟩
    go_wp2_with fail
    refine (texts_any A c vs ls _ ((hrd.below hbl2).more hbl2.size) ((hvs.below hbl2).more hbl2.size) (by omega)).mono ?_
    rintro e w3 ⟨A5, c5, rfl, hown5, hb3⟩
    have hrow3 := hrow2.below hb3 hrow2.lt
    have hown3 := own_up hown2 hb3
    have hbl3 := hbl2.trans (hb3.mono hbl2.size)
    clear hrow2 hown2 hb3 hbl2
    go_wp2_with fail
    refine ⟨⟨hrow3, hown3⟩, ?_⟩
    refine ⟨_, rfl, ?_⟩
    go_wp2_with fail
    refine (H13.out A5 c5 _ (own_rd hown5)).mono ?_
    rintro e w4 ⟨rfl, hb4⟩
    have hrow4 := hrow3.below hb4 hrow3.lt
    have hown4 := own_up hown3 hb4
    have hbl4 := hbl3.trans (hb4.mono hbl3.size)
    clear hrow3 hown3 hown5 hb4 hbl3 H13
    go_wp2_with fail
    refine ⟨⟨hrow4, hown4⟩, trivial, ?_⟩
    refine ⟨_, ?_, rfl, Or.inl ⟨by rfl, ?_⟩, ?_⟩
    rotate_left
    · intro wS hSw
      skip
      go_simp
      try with_reducible rfl
    simp only [Act.put, List.setIfInBounds_toArray, List.set_cons_zero, List.set_cons_succ]
    refine ⟨_, ?_, rfl, Or.inl ⟨by rfl, ?_⟩, ?_⟩
    rotate_left
    · intro wS hSw
      skip
      go_simp
      try with_reducible rfl
    simp only [Act.put, List.setIfInBounds_toArray, List.set_cons_zero, List.set_cons_succ]
    refine ⟨_, ?_, rfl, Or.inl ⟨by rfl, ?_⟩, ?_⟩
    rotate_left
    · intro wS hSw
      skip
      go_simp
      try with_reducible rfl
    simp only [Act.put, List.setIfInBounds_toArray, List.set_cons_zero, List.set_cons_succ]
    refine ⟨_, rfl, ?_⟩
    go_wp2_with fail
    refine (awake_any _).mono ?_
    rintro e w6 ⟨rfl, hb7⟩
    have hbl6 := hbl4.trans (hb7.mono hbl4.size)
    go_wp2_with fail
    refine ⟨trivial, ?_⟩
    refine ⟨_, ?_, rfl, Or.inl ⟨by rfl, ?_⟩, ?_⟩
    rotate_left
    · intro wS hSw
      skip
      go_simp
      try with_reducible rfl
    simp only [Act.put, List.setIfInBounds_toArray, List.set_cons_zero, List.set_cons_succ]
    refine ⟨_, rfl, ?_⟩
    go_wp2_with fail
    refine ⟨trivial, ?_⟩
    refine NoPanic.normal ?_
    go_wp2_with fail
    go_ret
    exact ⟨rfl, hbl6⟩
end Go.Proofs.Ythaceagaodjllaa
