/- The law GcsAny, walked: it answers true. No condition but the reading's own. -/
import Derived.Test.YthaceagaodjllaaRefAny
import Derived.Test.YthaceagaodjllaaAwake
namespace Go.Proofs.Ythaceagaodjllaa
open Go.RowKit

theorem range_split (i n : Nat) (h : i ≤ n) : List.range n = List.range i ++ List.range' i (n - i) := by
  rw [List.range_eq_range', List.range_eq_range', show n = i + (n - i) by omega, ← List.range'_append_1]
  simp
theorem anyTo_split (k0 k1 : Int) (ns : List Nat) (ls : List (List UInt8)) (i n : Nat) (h : i ≤ n) :
    anyTo k0 k1 ns ls n = anyTo k0 k1 ns ls i ++ (List.range' i (n - i)).filter fun i => decide (itemN k0 k1 (784931 * ns.length) (ls.getD i []) ∈ ns) := by
  unfold anyTo
  rw [range_split i n h, List.filter_append]
theorem anyTo_hit (k0 k1 : Int) (ns : List Nat) (ls : List (List UInt8)) (i : Nat) (h : i < ls.length) (hm : itemN k0 k1 (784931 * ns.length) ls[i] ∈ ns) :
    (anyTo k0 k1 ns ls ls.length)[(anyTo k0 k1 ns ls i).length]? = some i := by
  rw [anyTo_split k0 k1 ns ls (i + 1) ls.length (by omega), anyTo_succ k0 k1 ns ls i h, if_pos hm, List.append_assoc, List.getElem?_append_right (Nat.le_refl _), Nat.sub_self]
  rfl
theorem anyTo_miss (k0 k1 : Int) (ns : List Nat) (ls : List (List UInt8)) (i : Nat) (h : i < ls.length) (hm : itemN k0 k1 (784931 * ns.length) ls[i] ∉ ns) :
    (anyTo k0 k1 ns ls ls.length)[(anyTo k0 k1 ns ls i).length]? ≠ some i := by
  rw [anyTo_split k0 k1 ns ls (i + 1) ls.length (by omega), anyTo_succ k0 k1 ns ls i h, if_neg hm, List.getElem?_append_right (Nat.le_refl _), Nat.sub_self]
  intro e
  have hmem := List.mem_of_getElem? e
  rw [List.mem_filter, List.mem_range'_1] at hmem
  omega
theorem anyL_err (k0 k1 : Int) (bs : List UInt8) (ls : List (List UInt8)) (h : (vals bs).2 ≠ 0) : anyL k0 k1 bs ls = ([], (vals bs).2) := by unfold anyL; rw [if_pos h]
theorem anyL_ok (k0 k1 : Int) (bs : List UInt8) (ls : List (List UInt8)) (h : (vals bs).2 = 0) : anyL k0 k1 bs ls = (anyTo k0 k1 (vals bs).1 ls ls.length, 0) := by unfold anyL; rw [if_neg (by simp [h])]
theorem matchL_err (k0 k1 : Int) (bs t : List UInt8) (h : (vals bs).2 ≠ 0) : matchL k0 k1 bs t = (false, (vals bs).2) := by
  rw [matchL, anyL_err _ _ _ _ h]
  rfl
theorem matchL_ok (k0 k1 : Int) (bs t : List UInt8) (h : (vals bs).2 = 0) : matchL k0 k1 bs t = (decide (itemN k0 k1 (784931 * (vals bs).1.length) t ∈ (vals bs).1), 0) := by
  have h1 : (anyTo k0 k1 (vals bs).1 [t] 1).length = if itemN k0 k1 (784931 * (vals bs).1.length) t ∈ (vals bs).1 then 1 else 0 := by
    rw [anyTo_succ _ _ _ _ 0 (by simp)]
    simp only [List.getElem_cons_zero]
    by_cases hm : itemN k0 k1 (784931 * (vals bs).1.length) t ∈ (vals bs).1
    · rw [if_pos hm, if_pos hm]; simp [anyTo]
    · rw [if_neg hm, if_neg hm]; simp [anyTo]
  rw [matchL, anyL_ok _ _ _ _ h]
  simp only [List.length_singleton, h1]
  by_cases hm : itemN k0 k1 (784931 * (vals bs).1.length) t ∈ (vals bs).1
  · simp [hm]
  · simp [hm]

set_option maxRecDepth 100000 in
set_option maxHeartbeats 4000000 in
theorem gany_any (k0 k1 : Int) (A A2 : Option Addr) (c c2 : Nat) (bs : List UInt8) (vs : List Value) (ls : List (List UInt8)) (w : World) (hrb : Rd w w.heap.size A (u8s bs)) (hbs : bs.length ≤ 9223372036854775807)
    (hrd : Rd w w.heap.size A2 vs) (hvs : Tvs w w.heap.size vs ls) (hl : ls.length ≤ 9223372036854775807) :
    Calls Try.prog 6 #[.agg #[.int .u64 k0, .int .u64 k1], .slice A bs.length c, .slice A2 ls.length c2] w fun e w' => e = .returned (.bool true) ∧ Below w.heap.size w w' := by
  have hbA : Below w.heap.size w (w.alloc (.cells #[.int .u64 k0, .int .u64 k1] 23)) := by (repeat' (first | (with_reducible exact Below.refl _ _) | (with_reducible assumption) | (with_reducible refine Below.alloc ?_ ?_ _) | (with_reducible refine Below.drew ?_) | (with_reducible refine below_drewN ?_ _) | (with_reducible refine Below.setCell ?_ ?_ _) | (first | (with_reducible exact Nat.le_refl _) | (with_reducible assumption) | omega | (simp; omega) | (simp; done))))
  have hsmall := small_any A2 c2 vs ls (w.alloc (.cells #[.int .u64 k0, .int .u64 k1] 23)) ((hrd.below hbA).more (by simp)) ((hvs.below hbA).more (by simp)) hl
  cases hsb : smallB ls with
  | false =>
    rw [hsb] at hsmall
    have HS := Lib.hid hsmall
    clear hsmall hsb
    go_enter Try.func6, Try.ntmps6
    go_wp2_with fail
    refine HS.out.mono ?_
    rintro e _ ⟨rfl, rfl⟩
    go_wp2_with fail
    refine (awake_any _).mono ?_
    rintro e w1 ⟨rfl, hb1⟩
    go_wp2_with fail
    go_ret
    exact ⟨rfl, hbA.trans (hb1.mono hbA.size)⟩
  | true =>
    rw [hsb] at hsmall
    have HS := Lib.hid hsmall
    clear hsmall
    by_cases hbig : 100 < bs.length
    · clear hsb
      go_enter Try.func6, Try.ntmps6
      go_wp2_with fail
      refine HS.out.mono ?_
      rintro e _ ⟨rfl, rfl⟩
      go_wp2_with fail
      refine (awake_any _).mono ?_
      rintro e w1 ⟨rfl, hb1⟩
      go_wp2_with fail
      go_ret
      exact ⟨rfl, hbA.trans (hb1.mono hbA.size)⟩
    · have hll := smallB_len ls hsb
      have HTS : Hid (∀ t ∈ ls, t.length ≤ 65536) := Lib.hid (fun t ht => by
        obtain ⟨q, hq, rfl⟩ := List.getElem_of_mem ht
        have := smallB_each ls hsb q hq
        omega)
      clear hsb
      have hrowA : Row (w.alloc (.cells #[.int .u64 k0, .int .u64 k1] 23)) w.heap.size 23 [.int .u64 k0, .int .u64 k1] := Row.new w _ [.int .u64 k0, .int .u64 k1]
      go_enter Try.func6, Try.ntmps6
      go_wp2_with fail
      refine HS.out.mono ?_
      rintro e _ ⟨rfl, rfl⟩
      go_wp2_with fail
      refine (any_any k0 k1 A A2 c c2 bs vs ls _ ((hrb.below hbA).more (by simp)) (by omega) ((hrd.below hbA).more (by simp)) ((hvs.below hbA).more (by simp)) (by omega)).mono ?_
      rintro e w1 ⟨A3, c3, rfl, hown3, hb1⟩
      have hrow1 := hrowA.below hb1 hrowA.lt
      have hbl1 := hbA.trans (hb1.mono hbA.size)
      have hown3' := own_base (base' := w.heap.size + 1) hown3 (by simp)
      clear hrowA hbA hb1 hown3 HS
      have hcv := run_back (P := Try.prog) 27 9 5 (c := c) Try.underlying27 Try.underlying5 Try.underlying9 (hrb.below hbl1)
      by_cases herr : (vals bs).2 = 0
      · have hal := anyL_ok k0 k1 bs ls herr
        have hmt := fun t => matchL_ok k0 k1 bs t herr
        have hvl := vals_length bs
        have h13 := values13_any bs w1 (by omega)
        rw [herr] at h13
        rw [hal] at hown3' ⊢
        simp only at hown3' ⊢
        generalize (vals bs).1 = ns at *
        have HMT := Lib.hid hmt
        have H13 := Lib.hid h13
        clear hmt h13 hal herr
        go_wp2_with fail
        refine H13.out.mono ?_
        rintro e w2 ⟨A4, c4, rfl, hown4, hb2⟩
        have hrow2 := hrow1.below hb2 hrow1.lt
        have hown32 := own_up hown3' hb2
        have hbl2 := hbl1.trans (hb2.mono hbl1.size)
        have hws : w.heap.size + 1 ≤ w1.heap.size := hrow1.lt
        have hown42 := own_base (base' := w.heap.size + 1) hown4 hws
        clear hrow1 hown3' hown4 hb2 hcv hbl1
        go_wp2_with fail
        refine wp_region_plan 4 [(0, true), (1, true), (2, true), (3, false)] [(4, false), (5, false)] (fun x => Row x w.heap.size 23 [.int .u64 k0, .int .u64 k1]) (fun x => Row x w.heap.size 23 [.int .u64 k0, .int .u64 k1]) (by kernel_rfl) (by kernel_rfl) (hrow2.drewN 1) ?_
        refine ⟨_, ?_, rfl, Or.inl ⟨by rfl, ?_⟩, ?_⟩
        rotate_left
        · intro wS hSw
          have hcS := hSw.cell
          go_simp
          try with_reducible rfl
        simp only [Act.put, List.setIfInBounds_toArray, List.set_cons_zero, List.set_cons_succ]
        refine ⟨_, ?_, rfl, Or.inl ⟨by rfl, ?_⟩, ?_⟩
        rotate_left
        · intro wS hSw
          skip
          go_simp
          try with_reducible rfl
        simp only [Act.put, List.setIfInBounds_toArray, List.set_cons_zero, List.set_cons_succ]
        refine ⟨_, ?_, rfl, Or.inl ⟨by rfl, ?_⟩, ?_⟩
        rotate_left
        · intro wS hSw
          skip
          go_simp
          try with_reducible rfl
        simp only [Act.put, List.setIfInBounds_toArray, List.set_cons_zero, List.set_cons_succ]
        have hbl2' : Below w.heap.size w (w2.drewN 1) := by (repeat' (first | (with_reducible exact Below.refl _ _) | (with_reducible assumption) | (with_reducible refine Below.alloc ?_ ?_ _) | (with_reducible refine Below.drew ?_) | (with_reducible refine below_drewN ?_ _) | (with_reducible refine Below.setCell ?_ ?_ _) | (first | (with_reducible exact Nat.le_refl _) | (with_reducible assumption) | omega | (simp; omega) | (simp; done))))
        have hrow2' := hrow2.drewN 1
        have hown32' : (w2.drewN 1).ownsRow (w.heap.size + 1) 3 1 (.slice A3 (anyTo k0 k1 ns ls ls.length).length c3) (anyTo k0 k1 ns ls ls.length).length (vint (anyTo k0 k1 ns ls ls.length)) := own_up hown32 (by (repeat' (first | (with_reducible exact Below.refl _ _) | (with_reducible assumption) | (with_reducible refine Below.alloc ?_ ?_ _) | (with_reducible refine Below.drew ?_) | (with_reducible refine below_drewN ?_ _) | (with_reducible refine Below.setCell ?_ ?_ _) | (first | (with_reducible exact Nat.le_refl _) | (with_reducible assumption) | omega | (simp; omega) | (simp; done)))))
        have hown42' : (w2.drewN 1).ownsRow (w.heap.size + 1) 22 1 (.slice A4 ns.length c4) ns.length (vnat ns) := own_up hown42 (by (repeat' (first | (with_reducible exact Below.refl _ _) | (with_reducible assumption) | (with_reducible refine Below.alloc ?_ ?_ _) | (with_reducible refine Below.drew ?_) | (with_reducible refine below_drewN ?_ _) | (with_reducible refine Below.setCell ?_ ?_ _) | (first | (with_reducible exact Nat.le_refl _) | (with_reducible assumption) | omega | (simp; omega) | (simp; done)))))
        clear hrow2 hown32 hown42
        refine ⟨_, rfl, ?_⟩
        go_wp2_with fail
        refine (texts_any A2 c2 vs ls _ ((hrd.below hbl2').more hbl2'.size) ((hvs.below hbl2').more hbl2'.size) (by omega)).mono ?_
        rintro e w3 ⟨A5, c5, rfl, hown5, hb3⟩
        have hrow3 := hrow2'.below hb3 hrow2'.lt
        have hown33 := own_up hown32' hb3
        have hown43 := own_up hown42' hb3
        have hbl3 := hbl2'.trans (hb3.mono hbl2'.size)
        clear hrow2' hown32' hown42' hb3 hbl2' hbl2
        go_wp2_with fail
        refine ⟨hrow3, hrow3, ?_⟩
        refine ⟨_, rfl, ?_⟩
        go_wp2_with fail
        refine (any13_any k0 k1 A4 A5 c4 c5 ns ls _ (own_rd hown43) (own_rd hown5) (by omega) (by omega) HTS.out).mono ?_
        rintro e w4 ⟨A6, c6, rfl, hown6, hb4⟩
        have hrow4 := hrow3.below hb4 hrow3.lt
        have hown34 := own_up hown33 hb4
        have hbl4 := hbl3.trans (hb4.mono hbl3.size)
        have hws3 := hrow3.lt
        have hown6' := own_base (base' := w.heap.size + 1) hown6 hws3
        clear hrow3 hown33 hown43 hown5 hb4 hbl3 hown6 hws3
        go_wp2_with fail
        refine ⟨hrow4, ?_⟩
        refine ⟨_, rfl, ?_⟩
        go_wp2_with fail
        refine ⟨hrow4, ?_⟩
        refine NoPanic.normal ?_
        have hat := anyTo_length k0 k1 ns ls
        have HHIT : Hid (∀ i (h : i < ls.length), itemN k0 k1 (784931 * ns.length) ls[i] ∈ ns → (anyTo k0 k1 ns ls ls.length)[(anyTo k0 k1 ns ls i).length]? = some i) := Lib.hid (anyTo_hit k0 k1 ns ls)
        have HMISS : Hid (∀ i (h : i < ls.length), itemN k0 k1 (784931 * ns.length) ls[i] ∉ ns → (anyTo k0 k1 ns ls ls.length)[(anyTo k0 k1 ns ls i).length]? ≠ some i) := Lib.hid (anyTo_miss k0 k1 ns ls)
        have HSUCC := Lib.hid (anyTo_succ k0 k1 ns ls)
        have hatW := hat ls.length
        have hat0 : (anyTo k0 k1 ns ls 0) = [] := rfl
        have HAT := Lib.hid hat
        have HAT0 := Lib.hid hat0
        clear hat hat0
        generalize hgW : anyTo k0 k1 ns ls ls.length = W at *
        generalize hgF : anyTo k0 k1 ns ls = F at *
        clear hgW hgF
        go_wp2_with fail
        go_loopg [14, 80] ls.length (fun m kk i wx => ∃ j : Nat, m = ls.length - j ∧ j ≤ ls.length ∧ i = .int .i64 (j : Int) ∧ kk = .int .i64 ((F j).length : Int) ∧ Row wx w.heap.size 23 [.int .u64 k0, .int .u64 k1] ∧
          wx.ownsRow (w.heap.size + 1) 3 1 (.slice A3 W.length c3) W.length (vint W) ∧ wx.ownsRow (w.heap.size + 1) 3 1 (.slice A6 W.length c6) W.length (vint W) ∧ Below w.heap.size w wx)
        case atStart => exact ⟨0, by omega, by omega, rfl, by rw [HAT0.out]; rfl, hrow4, hown34, hown6', hbl4⟩
        case round =>
          obtain ⟨j, rfl, hj, rfl, rfl, hrow, ho3, ho6, hbl⟩ := hrel
          clear hrow4 hown34 hown6' hbl4
          by_cases hlt : j < ls.length
          · obtain ⟨b, off, rfl, _, _, hcell⟩ := (hrd.below hbl).at (k := j) (by have := hvs.len; omega)
            have htv := (hvs.each j (by have := hvs.len; omega) hlt).below hbl
            obtain ⟨At, ct, hv, hc1, hc2, hrt⟩ := htv.ex
            rw [hv] at hcell htv
            have hcr := hrow.cell
            have hHIT := HHIT.out j hlt
            have hMISS := HMISS.out j hlt
            have hSU := HSUCC.out j hlt
            have hfj := HAT.out j
            have hmm := match_any k0 k1 A c (.slice At ls[j].length ct) bs ls[j] wr ((hrb.below hbl).more hbl.size) (by omega) (htv.more hbl.size)
            rw [HMT.out] at hmm
            clear hv hrt htv
            generalize ls[j] = t at *
            by_cases hin : itemN k0 k1 (784931 * ns.length) t ∈ ns
            · have hW := hHIT hin
              rw [if_pos hin] at hSU
              rw [decide_eq_true hin] at hmm
              obtain ⟨hkW, hWk⟩ := List.getElem?_eq_some_iff.1 hW
              obtain ⟨b3, o3, e3, _, hlt3, hc3⟩ := (own_rd ho3).at (k := (F j).length) (by simpa using hkW)
              obtain ⟨b6, o6, e6, _, _, hc6⟩ := (own_rd ho6).at (k := (F j).length) (by simpa using hkW)
              rw [vint_get _ _ hkW, hWk] at hc3 hc6
              subst e3 e6
              have HMM := Lib.hid hmm
              have HSU := Lib.hid hSU
              clear hHIT hMISS hSU hmm hW hWk hin
              have hfl : (F (j + 1)).length = (F j).length + 1 := by rw [HSU.out]; simp
              have HFL := Lib.hid hfl
              clear hfl
              generalize (F j).length = q at *
              go_wp2_with fail
              refine HMM.out.mono ?_
              rintro e w5 ⟨rfl, hb5⟩
              have hrow5 := hrow.below hb5 hrow.lt
              have ho35 := own_up ho3 hb5
              have ho65 := own_up ho6 hb5
              have hbl5 := hbl.trans (hb5.mono hbl.size)
              have hc35 := (hb5.cell (p := ⟨b3, o3 + q, none⟩) hlt3).trans hc3
              have hjj : ((j : Int) != (j : Int)) = false := by simp
              clear hrow ho3 ho6 hbl hb5 hc3 hc6 hcr hcell
              go_wp2_with fail
              go_roundg (ls.length - (j + 1))
              case measure => omega
              case rel => exact ⟨j + 1, rfl, by omega, by go_num, int_eq (by rw [HFL.out]; omega), hrow5, ho35, ho65, hbl5⟩
            · have hW := hMISS hin
              rw [if_neg hin] at hSU
              rw [decide_eq_false hin] at hmm
              have HMM := Lib.hid hmm
              have HSU := Lib.hid hSU
              clear hHIT hMISS hSU hmm hin
              have hfl : (F (j + 1)).length = (F j).length := by rw [HSU.out]
              have HFL := Lib.hid hfl
              clear hfl
              generalize (F j).length = q at *
              by_cases hqW : q < W.length
              · obtain ⟨b6, o6, e6, _, _, hc6⟩ := (own_rd ho6).at (k := q) (by simpa using hqW)
                rw [vint_get _ _ hqW] at hc6
                subst e6
                have hne : ((W[q] : Int) == (j : Int)) = false := by
                  rw [beq_eq_false_iff_ne]
                  intro e
                  apply hW
                  rw [List.getElem?_eq_getElem hqW]
                  congr 1
                  omega
                clear hW
                generalize W[q] = wq at *
                go_wp2_with fail
                refine HMM.out.mono ?_
                rintro e w5 ⟨rfl, hb5⟩
                have hrow5 := hrow.below hb5 hrow.lt
                have ho35 := own_up ho3 hb5
                have ho65 := own_up ho6 hb5
                have hbl5 := hbl.trans (hb5.mono hbl.size)
                clear hrow ho3 ho6 hbl hb5 hc6 hcr hcell
                go_wp2_with fail
                go_roundg (ls.length - (j + 1))
                case measure => omega
                case rel => exact ⟨j + 1, rfl, by omega, by go_num, int_eq (by rw [HFL.out]), hrow5, ho35, ho65, hbl5⟩
              · have hqb : decide (q < W.length) = false := by rw [decide_eq_false_iff_not]; exact hqW
                clear hW
                go_wp2_with fail
                refine HMM.out.mono ?_
                rintro e w5 ⟨rfl, hb5⟩
                have hrow5 := hrow.below hb5 hrow.lt
                have ho35 := own_up ho3 hb5
                have ho65 := own_up ho6 hb5
                have hbl5 := hbl.trans (hb5.mono hbl.size)
                clear hrow ho3 ho6 hbl hb5 hcr hcell
                go_wp2_with fail
                go_roundg (ls.length - (j + 1))
                case measure => omega
                case rel => exact ⟨j + 1, rfl, by omega, by go_num, int_eq (by rw [HFL.out]), hrow5, ho35, ho65, hbl5⟩
          · obtain rfl : j = ls.length := by omega
            go_wp2_with fail
            refine (awake_any _).mono ?_
            rintro e w5 ⟨rfl, hb5⟩
            go_wp2_with fail
            go_ret
            exact ⟨rfl, hbl.trans (hb5.mono hbl.size)⟩
      · have hal := anyL_err k0 k1 bs ls herr
        have hmt := matchL_err k0 k1 bs [] herr
        have hve := vals_err bs herr
        have h13 := values13_any bs w1 (by omega)
        rw [hve] at h13
        rw [hal] at hown3' ⊢
        simp only at hown3' ⊢
        generalize (vals bs).2 = e1 at *
        have HMT := Lib.hid hmt
        have H13 := Lib.hid h13
        have he' : ((e1 : Int) != 0) = true := by rw [bne_iff_ne]; omega
        have he2 : ((e1 : Int) == (e1 : Int)) = true := by simp
        have he3 : ((e1 : Int) != (e1 : Int)) = false := by simp
        clear hmt h13 hal herr hve
        go_wp2_with fail
        refine H13.out.mono ?_
        rintro e w2 ⟨A4, c4, rfl, hown4, hb2⟩
        have hrow2 := hrow1.below hb2 hrow1.lt
        have hbl2 := hbl1.trans (hb2.mono hbl1.size)
        clear hrow1 hown3' hown4 hb2 hcv hbl1
        have hcr := hrow2.cell
        go_wp2_with fail
        have hm := match_any k0 k1 A c (.slice none 0 0) bs [] w2 ((hrb.below hbl2).more hbl2.size) (by omega) ⟨none, 0, rfl, by simp, by omega, Rd.nil _ _ _⟩
        rw [HMT.out] at hm
        refine hm.mono ?_
        clear hm
        rintro e w3 ⟨rfl, hb3⟩
        have hbl3 := hbl2.trans (hb3.mono hbl2.size)
        go_wp2_with fail
        refine (awake_any _).mono ?_
        rintro e w4 ⟨rfl, hb4⟩
        go_wp2_with fail
        go_ret
        exact ⟨rfl, hbl3.trans (hb4.mono hbl3.size)⟩
end Go.Proofs.Ythaceagaodjllaa
