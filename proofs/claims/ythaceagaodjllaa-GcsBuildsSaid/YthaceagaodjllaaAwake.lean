/- The document's examples (13): awake answers true. No condition. -/
import Derived.Test.YthaceagaodjllaaShort
import Derived.Test.YthaceagaodjllaaBack
namespace Go.Proofs.Ythaceagaodjllaa
open Go.RowKit

theorem build_nil (k0 k1 : Int) : buildL k0 k1 [] = ([0], 0) := by
  unfold buildL numsL
  simp [sortN, riceL, varB, leB]
theorem buildL_one (k0 k1 : Int) (t : List UInt8) : ∃ b1 b2 b3, (buildL k0 k1 [t]).1 = [1, b1, b2, b3] ∧ (buildL k0 k1 [t]).2 = 0 := by
  have ho : onceL [t] = [t] := by simp [onceL]
  have hlt := (itemN_le k0 k1 784931 t).2 (by omega)
  have hn : numsL k0 k1 [t] = [itemN k0 k1 784931 t] := by
    unfold numsL
    rw [ho]
    simp [sortN]
  have hl : (pack (riceL 0 [itemN k0 k1 784931 t])).length = 3 := by
    rw [pack_length, riceL, List.length_append, riceB_length]
    simp only [riceL, List.length_nil]
    omega
  unfold buildL
  rw [hn, ho, if_neg (by simp)]
  generalize pack (riceL 0 [itemN k0 k1 784931 t]) = ps at *
  obtain ⟨b1, b2, b3, rfl⟩ : ∃ b1 b2 b3, ps = [b1, b2, b3] := by
    rcases ps with _ | ⟨b1, _ | ⟨b2, _ | ⟨b3, _ | ⟨b4, r⟩⟩⟩⟩ <;> simp at hl
    exact ⟨b1, b2, b3, rfl⟩
  exact ⟨b1, b2, b3, by simp [varB, leB], rfl⟩

set_option maxRecDepth 20000 in
set_option maxHeartbeats 1000000 in
theorem awake_any (w : World) : Calls Try.prog 10 #[] w fun e w' => e = .returned (.bool true) ∧ Below w.heap.size w w' := by
  go_enter Try.func10, Try.ntmps10
  go_wp2_with fail
  have hb0 := build_any 1 2 none 0 [] [] w (Rd.nil _ _ _) (Tvs.nil _ _) (by simp) (sort_short 0 (by omega))
  rw [build_nil] at hb0
  refine hb0.mono ?_
  clear hb0
  rintro e w1 ⟨A1, c1, rfl, hown1, hb1⟩
  go_wp2_with fail
  have hbA : Below w1.heap.size w1 ((w1.alloc (.cells #[.int .u8 1] 5)).alloc (.cells #[.slice (some ⟨w1.heap.size, 0, none⟩) 1 1] 27)) := by (repeat' (first | (with_reducible exact Below.refl _ _) | (with_reducible assumption) | (with_reducible refine Below.alloc ?_ ?_ _) | (with_reducible refine Below.drew ?_) | (with_reducible refine below_drewN ?_ _) | (with_reducible refine Below.setCell ?_ ?_ _) | (first | (with_reducible exact Nat.le_refl _) | (with_reducible assumption) | omega | (simp; omega) | (simp; done))))
  have hrow0 : Row ((w1.alloc (.cells #[.int .u8 1] 5)).alloc (.cells #[.slice (some ⟨w1.heap.size, 0, none⟩) 1 1] 27)) w1.heap.size 5 (u8s [1]) := (Row.new w1 _ (u8s [1])).alloc _
  have hrow1 : Row ((w1.alloc (.cells #[.int .u8 1] 5)).alloc (.cells #[.slice (some ⟨w1.heap.size, 0, none⟩) 1 1] 27)) (w1.heap.size + 1) 27 [.slice (some ⟨w1.heap.size, 0, none⟩) 1 1] := Row.new_eq (cs := [.slice (some ⟨w1.heap.size, 0, none⟩) 1 1]) (by simp)
  have htv : Txv ((w1.alloc (.cells #[.int .u8 1] 5)).alloc (.cells #[.slice (some ⟨w1.heap.size, 0, none⟩) 1 1] 27)) ((w1.alloc (.cells #[.int .u8 1] 5)).alloc (.cells #[.slice (some ⟨w1.heap.size, 0, none⟩) 1 1] 27)).heap.size (.slice (some ⟨w1.heap.size, 0, none⟩) 1 1) [1] :=
    ⟨_, 1, rfl, by simp, by omega, Rd.row hrow0⟩
  have hb2 := build_any 1 2 (some ⟨w1.heap.size + 1, 0, none⟩) 1 [.slice (some ⟨w1.heap.size, 0, none⟩) 1 1] [[1]] _ (Rd.row hrow1) (Tvs.snoc (Tvs.nil _ _) htv) (by simp) (sort_short 1 (by omega))
  obtain ⟨b1, b2, b3, hbl, hbe⟩ := buildL_one 1 2 [1]
  have hmt := matchL_build 1 2 [[1]] (by simp [onceL]) [1] (by simp)
  rw [hbl, hbe] at hb2
  rw [hbl] at hmt
  refine hb2.mono ?_
  have HMT := Lib.hid hmt
  clear hb2 hbl hbe hmt htv hrow0 hrow1
  rintro e w2 ⟨A2, c2, rfl, hown2, hb2⟩
  have hb2' := hbA.trans (hb2.mono hbA.size)
  have hown1' := own_up hown1 hb2'
  have hbl2 := hb1.trans (hb2'.mono hb1.size)
  clear hown1 hb1 hb2 hbA hb2'
  simp only [List.length_cons, List.length_nil] at hown2 hown1' ⊢
  go_wp2_with fail
  have hbC : Below w2.heap.size w2 (w2.alloc (.cells #[.int .u8 1] 5)) := by (repeat' (first | (with_reducible exact Below.refl _ _) | (with_reducible assumption) | (with_reducible refine Below.alloc ?_ ?_ _) | (with_reducible refine Below.drew ?_) | (with_reducible refine below_drewN ?_ _) | (with_reducible refine Below.setCell ?_ ?_ _) | (first | (with_reducible exact Nat.le_refl _) | (with_reducible assumption) | omega | (simp; omega) | (simp; done))))
  have hrowC : Row (w2.alloc (.cells #[.int .u8 1] 5)) w2.heap.size 5 (u8s [1]) := Row.new w2 _ (u8s [1])
  have htv : Txv (w2.alloc (.cells #[.int .u8 1] 5)) (w2.alloc (.cells #[.int .u8 1] 5)).heap.size (.slice (some ⟨w2.heap.size, 0, none⟩) 1 1) [1] := ⟨_, 1, rfl, by simp, by omega, Rd.row hrowC⟩
  have hm := match_any 1 2 A2 c2 (.slice (some ⟨w2.heap.size, 0, none⟩) 1 1) [1, b1, b2, b3] [1] _ (own_rd (own_up hown2 hbC)) (by simp) htv
  rw [HMT.out] at hm
  refine hm.mono ?_
  clear hm htv hrowC HMT
  rintro e w3 ⟨rfl, hb3⟩
  have hb3' := hbC.trans (hb3.mono hbC.size)
  have hown1'' := own_up hown1' hb3'
  have hown2'' := own_up hown2 hb3'
  have hbl3 := hbl2.trans (hb3'.mono hbl2.size)
  clear hown1' hown2 hb3 hb3' hbC hbl2
  have hcv := run_back (P := Try.prog) 27 9 5 (c := c1) (l := [0]) Try.underlying27 Try.underlying5 Try.underlying9 (own_rd hown1'')
  obtain ⟨b, off, rfl, _, _, hcell⟩ := (own_rd hown2'').at (k := 0) (by simp)
  rw [u8s_get _ _ (by simp)] at hcell
  have htl : (tx [0]).toList = [0] := tx_toList [0]
  simp only [List.getElem_cons_zero, List.length_singleton, Nat.add_zero] at hcell hcv
  go_wp2_with fail
  go_ret
  exact ⟨rfl, hbl3⟩
end Go.Proofs.Ythaceagaodjllaa
