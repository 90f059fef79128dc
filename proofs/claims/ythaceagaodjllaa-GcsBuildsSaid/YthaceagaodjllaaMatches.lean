/- The law GcsMatches, walked: it answers true. No condition but the reading's own. -/
import Derived.Test.YthaceagaodjllaaGAny
import Derived.Test.YthaceagaodjllaaSort6
namespace Go.Proofs.Ythaceagaodjllaa
open Go.RowKit

theorem buildL_length (k0 k1 : Int) (ls : List (List UInt8)) : (buildL k0 k1 ls).1.length ≤ 200000000 := by
  unfold buildL
  split
  · simp
  · rename_i h
    have h1 := riceL_numsL k0 k1 ls (by omega)
    have h2 := varB_length (onceL ls).length
    simp only [List.length_append, pack_length]
    omega
theorem buildL_ok (k0 k1 : Int) (ls : List (List UInt8)) (h : ls.length ≤ 1000) : (buildL k0 k1 ls).2 = 0 := by
  have := onceL_length ls
  unfold buildL
  rw [if_neg (by omega)]
theorem anyL_build (k0 k1 : Int) (ls : List (List UInt8)) (h : ls.length ≤ 1000) : (anyL k0 k1 (buildL k0 k1 ls).1 ls).2 = 0 ∧ (anyL k0 k1 (buildL k0 k1 ls).1 ls).1.length = ls.length := by
  have ho := onceL_length ls
  have hv := vals_build k0 k1 ls (by omega)
  rw [anyL_ok k0 k1 _ ls (by rw [hv]), hv]
  refine ⟨rfl, ?_⟩
  simp only
  have key : ∀ k, k ≤ ls.length → (anyTo k0 k1 (numsL k0 k1 ls) ls k).length = k := by
    intro k
    induction k with
    | zero => intro _; rfl
    | succ k ih =>
      intro hk
      rw [anyTo_succ _ _ _ _ k (by omega), if_pos (match_build k0 k1 ls (by omega) _ (List.getElem_mem (by omega)))]
      simp [ih (by omega)]
  exact key _ (Nat.le_refl _)

set_option maxRecDepth 100000 in
set_option maxHeartbeats 4000000 in
theorem matches_any (k0 k1 : Int) (A : Option Addr) (c : Nat) (vs : List Value) (ls : List (List UInt8)) (w : World) (hrd : Rd w w.heap.size A vs) (hvs : Tvs w w.heap.size vs ls) (hl : ls.length ≤ 9223372036854775807) :
    Calls Try.prog 5 #[.agg #[.int .u64 k0, .int .u64 k1], .slice A ls.length c] w fun e w' => e = .returned (.bool true) ∧ Below w.heap.size w w' := by
  have hbA : Below w.heap.size w (w.alloc (.cells #[.int .u64 k0, .int .u64 k1] 23)) := by (repeat' (first | (with_reducible exact Below.refl _ _) | (with_reducible assumption) | (with_reducible refine Below.alloc ?_ ?_ _) | (with_reducible refine Below.drew ?_) | (with_reducible refine below_drewN ?_ _) | (with_reducible refine Below.setCell ?_ ?_ _) | (first | (with_reducible exact Nat.le_refl _) | (with_reducible assumption) | omega | (simp; omega) | (simp; done))))
  have hsmall := small_any A c vs ls (w.alloc (.cells #[.int .u64 k0, .int .u64 k1] 23)) ((hrd.below hbA).more (by simp)) ((hvs.below hbA).more (by simp)) hl
  cases hsb : smallB ls with
  | false =>
    rw [hsb] at hsmall
    have HS := Lib.hid hsmall
    clear hsmall hsb
    go_enter Try.func5, Try.ntmps5
    go_wp2_with fail
    refine HS.out.mono ?_
    rintro e _ ⟨rfl, rfl⟩
    go_wp2_with fail
    refine (awake_any _).mono ?_
    rintro e w1 ⟨rfl, hb1⟩
    go_wp2_with fail
    go_ret
    exact ⟨rfl, hbA.trans (hb1.mono hbA.size)⟩
  | true =>
    rw [hsb] at hsmall
    have HS := Lib.hid hsmall
    have hll := smallB_len ls hsb
    have hol := onceL_length ls
    clear hsmall hsb
    have hrowA : Row (w.alloc (.cells #[.int .u64 k0, .int .u64 k1] 23)) w.heap.size 23 [.int .u64 k0, .int .u64 k1] := Row.new w _ [.int .u64 k0, .int .u64 k1]
    have hbuild := build_any k0 k1 A c vs ls (w.alloc (.cells #[.int .u64 k0, .int .u64 k1] 23)) ((hrd.below hbA).more (by simp)) ((hvs.below hbA).more (by simp)) (by omega) (sort_ok _ (by omega))
    rw [buildL_ok k0 k1 ls (by omega)] at hbuild
    have HB := Lib.hid hbuild
    have hbl := buildL_length k0 k1 ls
    have hml := fun t ht => matchL_build k0 k1 ls (by omega) t ht
    have HML := Lib.hid hml
    have hanyl := anyL_build k0 k1 ls (by omega)
    have HAL := Lib.hid hanyl
    clear hbuild hml hanyl
    generalize (buildL k0 k1 ls).1 = bs at *
    go_enter Try.func5, Try.ntmps5
    go_wp2_with fail
    refine HS.out.mono ?_
    rintro e _ ⟨rfl, rfl⟩
    go_wp2_with fail
    refine HB.out.mono ?_
    rintro e w1 ⟨A1, c1, rfl, hown1, hb1⟩
    have hrow1 := hrowA.below hb1 hrowA.lt
    have hbl1 := hbA.trans (hb1.mono hbA.size)
    have hown1' := own_base (base' := w.heap.size + 1) hown1 (by simp)
    clear hrowA hbA hb1 hown1 HS HB
    go_wp2_with fail
    go_loopg [27] ls.length (fun m i wx => ∃ j : Nat, m = ls.length - j ∧ j ≤ ls.length ∧ i = .int .i64 (j : Int) ∧ Row wx w.heap.size 23 [.int .u64 k0, .int .u64 k1] ∧ wx.ownsRow (w.heap.size + 1) 5 1 (.slice A1 bs.length c1) bs.length (u8s bs) ∧ Below w.heap.size w wx)
    case atStart => exact ⟨0, by omega, by omega, rfl, hrow1, hown1', hbl1⟩
    case round =>
      obtain ⟨j, rfl, hj, rfl, hrow, hown, hb⟩ := hrel
      clear hrow1 hown1' hbl1
      have hcr := hrow.cell
      by_cases hlt : j < ls.length
      · obtain ⟨b, off, rfl, _, _, hcell⟩ := (hrd.below hb).at (k := j) (by have := hvs.len; omega)
        have htv := (hvs.each j (by have := hvs.len; omega) hlt).below hb
        obtain ⟨At, ct, hv, hc1, hc2, hrt⟩ := htv.ex
        rw [hv] at hcell htv
        have hmm := match_any k0 k1 A1 c1 (.slice At ls[j].length ct) bs ls[j] wr (own_rd hown) (by omega) (htv.more hb.size)
        rw [HML.out _ (List.getElem_mem hlt)] at hmm
        have HMM := Lib.hid hmm
        clear hv hrt htv hmm
        generalize ls[j] = t at *
        go_wp2_with fail
        refine HMM.out.mono ?_
        rintro e w5 ⟨rfl, hb5⟩
        have hrow5 := hrow.below hb5 hrow.lt
        have hown5 := own_up hown hb5
        have hb6 := hb.trans (hb5.mono hb.size)
        clear hrow hown hb hb5 hcell hcr
        go_wp2_with fail
        go_roundg (ls.length - (j + 1))
        case measure => omega
        case rel => exact ⟨j + 1, rfl, by omega, by go_num, hrow5, hown5, hb6⟩
      · obtain rfl : j = ls.length := by omega
        have hany := any_any k0 k1 A1 A c1 c bs vs ls wr (own_rd hown) (by omega) ((hrd.below hb).more hb.size) ((hvs.below hb).more hb.size) (by omega)
        rw [HAL.out.1, HAL.out.2] at hany
        have HANY := Lib.hid hany
        clear hany
        go_wp2_with fail
        refine HANY.out.mono ?_
        rintro e w5 ⟨A5, c5, rfl, hown5, hb5⟩
        have hb6 := hb.trans (hb5.mono hb.size)
        clear hown5 hb5
        go_wp2_with fail
        refine (awake_any _).mono ?_
        rintro e w6 ⟨rfl, hb7⟩
        go_wp2_with fail
        go_ret
        exact ⟨rfl, hb6.trans (hb7.mono hb6.size)⟩
end Go.Proofs.Ythaceagaodjllaa
