/- The law GcsOrder, walked: it answers true. No condition but the reading's own. -/
import Derived.Test.YthaceagaodjllaaMatches
import Derived.Test.YthaceagaodjllaaIns
namespace Go.Proofs.Ythaceagaodjllaa
open Go.RowKit

theorem rev_take_succ {α : Type} (vs : List α) (k : Nat) (h : k < vs.length) : vs.reverse.take (k + 1) = vs.reverse.take k ++ [vs[vs.length - 1 - k]] := by
  rw [take_snoc vs.reverse k (by simpa using h), List.getElem_reverse]
theorem Tvs.reverse {w : World} {B : Nat} {vs : List Value} {ls : List (List UInt8)} (h : Tvs w B vs ls) : Tvs w B vs.reverse ls.reverse := ⟨by simp [h.len], fun k h1 h2 => by
  have hl := h.len
  simp only [List.getElem_reverse]
  have := h.each (vs.length - 1 - k) (by simp at h1; omega) (by simp at h1; omega)
  simpa only [hl] using this⟩

set_option maxRecDepth 100000 in
set_option maxHeartbeats 4000000 in
theorem order_any (k0 k1 : Int) (A : Option Addr) (c : Nat) (vs : List Value) (ls : List (List UInt8)) (w : World) (hrd : Rd w w.heap.size A vs) (hvs : Tvs w w.heap.size vs ls) (hl : ls.length ≤ 9223372036854775807) :
    Calls Try.prog 7 #[.agg #[.int .u64 k0, .int .u64 k1], .slice A ls.length c] w fun e w' => e = .returned (.bool true) ∧ Below w.heap.size w w' := by
  have hbA : Below w.heap.size w (w.alloc (.cells #[.int .u64 k0, .int .u64 k1] 23)) := by (repeat' (first | (with_reducible exact Below.refl _ _) | (with_reducible assumption) | (with_reducible refine Below.alloc ?_ ?_ _) | (with_reducible refine Below.drew ?_) | (with_reducible refine below_drewN ?_ _) | (with_reducible refine Below.setCell ?_ ?_ _) | (first | (with_reducible exact Nat.le_refl _) | (with_reducible assumption) | omega | (simp; omega) | (simp; done))))
  have hsmall := small_any A c vs ls (w.alloc (.cells #[.int .u64 k0, .int .u64 k1] 23)) ((hrd.below hbA).more (by simp)) ((hvs.below hbA).more (by simp)) hl
  cases hsb : smallB ls with
  | false =>
    rw [hsb] at hsmall
    have HS := Lib.hid hsmall
    clear hsmall hsb
    go_enter Try.func7, Try.ntmps7
    go_wp2_with fail
    refine HS.out.mono ?_
    rintro e _ ⟨rfl, rfl⟩
    go_wp2_with fail
    refine (awake_any _).mono ?_
    rintro e w1 ⟨rfl, hb1⟩
    go_wp2_with fail
    go_ret
    exact ⟨rfl, hbA.trans (hb1.mono hbA.size)⟩
  | true =>
    rw [hsb] at hsmall
    have HS := Lib.hid hsmall
    have hll := smallB_len ls hsb
    clear hsmall hsb
    have hrowA : Row (w.alloc (.cells #[.int .u64 k0, .int .u64 k1] 23)) w.heap.size 23 [.int .u64 k0, .int .u64 k1] := Row.new w _ [.int .u64 k0, .int .u64 k1]
    have hlen := hvs.len
    go_enter Try.func7, Try.ntmps7
    go_wp2_with fail
    refine HS.out.mono ?_
    rintro e _ ⟨rfl, rfl⟩
    go_wp2_with fail
    go_loopg [5, 19] ls.length (fun m out i wx => ∃ (k : Nat) (A' : Option Addr) (c' : Nat), m = ls.length - k ∧ k ≤ ls.length ∧ i = .int .i64 (k : Int) ∧ out = .slice A' k c' ∧ Row wx w.heap.size 23 [.int .u64 k0, .int .u64 k1] ∧
      wx.ownsRow (w.heap.size + 1) 27 1 (.slice A' k c') k (vs.reverse.take k) ∧ Below w.heap.size w wx)
    case atStart => exact ⟨0, none, 0, by omega, by omega, rfl, rfl, hrowA, by simpa using World.ownsRow_nil _ _ _ _, hbA⟩
    case round =>
      obtain ⟨k, A', c', rfl, hk, rfl, rfl, hrow, hown, hbl⟩ := hrel
      clear hrowA hbA HS
      by_cases hlt : k < ls.length
      · obtain ⟨b, off, rfl, _, _, hcell⟩ := (hrd.below hbl).at (k := ls.length - 1 - k) (by omega)
        have htv := (hvs.each (ls.length - 1 - k) (by omega) (by omega))
        have HT : Hid (vs.reverse.take (k + 1) = vs.reverse.take k ++ [vs[ls.length - 1 - k]'(by omega)]) := Lib.hid (by
          rw [rev_take_succ vs k (by omega)]; congr 2; simp only [hlen])
        obtain ⟨At, ct, hv, hc1, hc2, hrt⟩ := htv.ex
        have htl : (ls[ls.length - 1 - k]'(by omega)).length = (ls[ls.length - 1 - k]'(by omega)).length := rfl
        rw [hv] at hcell HT
        clear hv hrt htv htl
        generalize (ls[ls.length - 1 - k]'(by omega)).length = tl at *
        have hxc : ((ls.length : Int) - 1 - (k : Int)).toNat = ls.length - 1 - k := by omega
        have hxd : IntKind.i64.wrap ((ls.length : Int) - 1 - (k : Int)) = (ls.length : Int) - 1 - (k : Int) := IntWalk.i64_in _ (by omega)
        have hxe : IntKind.i64.wrap ((ls.length : Int) - 1) = (ls.length : Int) - 1 := IntWalk.i64_in _ (by omega)
        have hxa : 0 ≤ (ls.length : Int) - 1 - (k : Int) := by omega
        have hxb : (ls.length : Int) - 1 - (k : Int) < (ls.length : Int) := by omega
        have hownA : (wr.alloc (.cells #[.slice At tl ct] 27)).ownsRow (w.heap.size + 1) 27 1 (.slice A' k c') k (vs.reverse.take k) := own_up hown (by (repeat' (first | (with_reducible exact Below.refl _ _) | (with_reducible assumption) | (with_reducible refine Below.alloc ?_ ?_ _) | (with_reducible refine Below.drew ?_) | (with_reducible refine below_drewN ?_ _) | (with_reducible refine Below.setCell ?_ ?_ _) | (first | (with_reducible exact Nat.le_refl _) | (with_reducible assumption) | omega | (simp; omega) | (simp; done)))))
        have hs := hbl.size
        have hs2 := hrow.lt
        go_wp2_with (at_builtin; refine wpList_app el_sl rfl (.tmp 22) (.tmp 31) rfl rfl hownA rfl (rd_one wr 27 _) (m := 1) (by simp) (by simp [Value.oneCell']) (by unfold maxLen; omega) (by omega) (by simp; omega) ?_; intro A3 c3 w3 hown3 hg3 hat3)
        go_roundg (ls.length - (k + 1))
        case measure => omega
        case rel =>
          refine ⟨k + 1, A3, c3, rfl, by omega, by go_num, rfl, (hrow.alloc _).grown hg3 (fun e => by have := (hownA.lt _ e.symm).1; omega), ?_, ?_⟩
          · rw [HT.out]; exact hown3
          · exact (hbl.alloc hbl.size _).trans (grown_below hownA hg3 (by omega) (by simp; omega))
      · obtain rfl : k = ls.length := by omega
        rw [List.take_of_length_le (by simp; omega)] at hown
        have hrl : vs.reverse.length = ls.length := by simp [hlen]
        have hrl2 : ls.reverse.length = ls.length := by simp
        have hol := onceL_length ls
        have hol2 := onceL_length ls.reverse
        have hol3 := onceL_length (ls.reverse ++ ls)
        have hal : (ls.reverse ++ ls).length = ls.length + ls.length := by simp
        have HE1 : Hid (buildL k0 k1 ls.reverse = buildL k0 k1 ls) := Lib.hid (buildL_same k0 k1 (fun t => by simp))
        have HE2 : Hid (buildL k0 k1 (ls.reverse ++ ls) = buildL k0 k1 ls) := Lib.hid (buildL_same k0 k1 (fun t => by simp))
        have HOK := Lib.hid (buildL_ok k0 k1 ls (by omega))
        have hb1 := build_any k0 k1 A c vs ls wr ((hrd.below hbl).more hbl.size) ((hvs.below hbl).more hbl.size) (by omega) (sort_ok _ (by omega))
        rw [HOK.out] at hb1
        have HB1 := Lib.hid hb1
        have HB2 : Hid (∀ (A2 : Option Addr) (c2 : Nat) (wx : World), Rd wx wx.heap.size A2 vs.reverse → Below w.heap.size w wx → Calls Try.prog 11 #[.agg #[.int .u64 k0, .int .u64 k1], .slice A2 ls.length c2] wx fun e w' => ∃ A' c', e = .returned (.tuple #[.slice A' (buildL k0 k1 ls).1.length c', .int .i64 0]) ∧
            w'.ownsRow wx.heap.size 5 1 (.slice A' (buildL k0 k1 ls).1.length c') (buildL k0 k1 ls).1.length (u8s (buildL k0 k1 ls).1) ∧ Below wx.heap.size wx w') := Lib.hid (fun A2 c2 wx hr hb => by
          have h := build_any k0 k1 A2 c2 vs.reverse ls.reverse wx hr ((hvs.reverse.below hb).more hb.size) (by omega) (sort_ok _ (by omega))
          rw [HE1.out, HOK.out, hrl2] at h
          exact h)
        have HB3 : Hid (∀ (A2 : Option Addr) (c2 : Nat) (wx : World), Rd wx wx.heap.size A2 (vs.reverse ++ vs) → Below w.heap.size w wx → Calls Try.prog 11 #[.agg #[.int .u64 k0, .int .u64 k1], .slice A2 (ls.length + ls.length) c2] wx fun e w' => ∃ A' c', e = .returned (.tuple #[.slice A' (buildL k0 k1 ls).1.length c', .int .i64 0]) ∧
            w'.ownsRow wx.heap.size 5 1 (.slice A' (buildL k0 k1 ls).1.length c') (buildL k0 k1 ls).1.length (u8s (buildL k0 k1 ls).1) ∧ Below wx.heap.size wx w') := Lib.hid (fun A2 c2 wx hr hb => by
          have h := build_any k0 k1 A2 c2 (vs.reverse ++ vs) (ls.reverse ++ ls) wx hr (((hvs.reverse.append hvs).below hb).more hb.size) (by omega) (sort_ok _ (by omega))
          rw [HE2.out, HOK.out, hal] at h
          exact h)
        have hbl1 := buildL_length k0 k1 ls
        have HONE : Hid (∀ u ∈ vs, u.oneCell' = true) := Lib.hid hvs.one
        clear hb1 HE1 HE2 HOK hol hol2 hol3 hal hrl2
        generalize (buildL k0 k1 ls).1 = bs at *
        have hcr := hrow.cell
        go_wp2_with fail
        refine HB1.out.mono ?_
        rintro e w1 ⟨A1, c1, rfl, hown1, hb1⟩
        have hrow1 := hrow.below hb1 hrow.lt
        have hownT1 := own_up hown hb1
        have hbl2 := hbl.trans (hb1.mono hbl.size)
        have hs1 := hrow.lt
        have hown1' := own_base (base' := w.heap.size + 1) hown1 hs1
        clear hrow hown hbl hb1 hown1 HB1 hcr
        have hcr := hrow1.cell
        go_wp2_with fail
        refine (HB2.out _ _ _ (own_rd hownT1) hbl2).mono ?_
        rintro e w2 ⟨A2, c2, rfl, hown2, hb2⟩
        have hrow2 := hrow1.below hb2 hrow1.lt
        have hownT2 := own_up hownT1 hb2
        have hown12 := own_up hown1' hb2
        have hbl3 := hbl2.trans (hb2.mono hbl2.size)
        have hs2 := hrow1.lt
        have hown2' := own_base (base' := w.heap.size + 1) hown2 hs2
        clear hrow1 hownT1 hown1' hbl2 hb2 hown2 HB2 hcr hs1
        go_wp2_with fail
        refine wp_region_plan 4 [(0, true), (1, true), (2, true), (3, false)] [(4, false), (5, true), (6, true), (7, true), (8, true), (9, false)] (fun x => Row x w.heap.size 23 [.int .u64 k0, .int .u64 k1]) (fun _ => True) (by kernel_rfl) (by kernel_rfl) (hrow2.drewN 1) ?_
        refine ⟨_, ?_, rfl, Or.inl ⟨by rfl, ?_⟩, ?_⟩
        rotate_left
        · intro wS hSw
          have hcS := hSw.cell
          go_simp
          try with_reducible rfl
        simp only [Act.put, List.setIfInBounds_toArray, List.set_cons_zero, List.set_cons_succ]
        refine ⟨_, ?_, rfl, Or.inl ⟨by rfl, ?_⟩, ?_⟩
        rotate_left
        · intro wS hSw
          skip
          go_simp
          try with_reducible rfl
        simp only [Act.put, List.setIfInBounds_toArray, List.set_cons_zero, List.set_cons_succ]
        refine ⟨_, ?_, rfl, Or.inl ⟨by rfl, ?_⟩, ?_⟩
        rotate_left
        · intro wS hSw
          skip
          go_simp
          try with_reducible rfl
        simp only [Act.put, List.setIfInBounds_toArray, List.set_cons_zero, List.set_cons_succ]
        have hrow3 := hrow2.drewN 1
        have hb3 : Below w2.heap.size w2 (w2.drewN 1) := by (repeat' (first | (with_reducible exact Below.refl _ _) | (with_reducible assumption) | (with_reducible refine Below.alloc ?_ ?_ _) | (with_reducible refine Below.drew ?_) | (with_reducible refine below_drewN ?_ _) | (with_reducible refine Below.setCell ?_ ?_ _) | (first | (with_reducible exact Nat.le_refl _) | (with_reducible assumption) | omega | (simp; omega) | (simp; done))))
        have hbl4 : Below w.heap.size w (w2.drewN 1) := by (repeat' (first | (with_reducible exact Below.refl _ _) | (with_reducible assumption) | (with_reducible refine Below.alloc ?_ ?_ _) | (with_reducible refine Below.drew ?_) | (with_reducible refine below_drewN ?_ _) | (with_reducible refine Below.setCell ?_ ?_ _) | (first | (with_reducible exact Nat.le_refl _) | (with_reducible assumption) | omega | (simp; omega) | (simp; done))))
        have hownT3 := own_up hownT2 hb3
        have hown13 := own_up hown12 hb3
        have hown23 := own_up hown2' hb3
        clear hrow2 hownT2 hown12 hown2' hb3 hs2
        have hs3 := hrow3.lt
        refine ⟨_, rfl, ?_⟩
        have hne : ∀ v ∈ ([] : List Value), v.oneCell' = true := by simp
        refine wpList_app el_sl rfl (.tmp 48) (.tmp 49) rfl rfl hownT3 rfl (hrd.below hbl4) (m := ls.length) (by omega) HONE.out (by unfold maxLen; omega) (by omega) hs3 ?_
        intro A3 c3 w3 hown3 hg3 hat3
        have hbl5 := hbl4.trans (grown_below hownT3 hg3 (by omega) (by omega))
        have hrow4 := hrow3.grown hg3 (fun e => by have := (hownT3.lt _ e.symm).1; omega)
        have hown14 : w3.ownsRow (w.heap.size + 1) 5 1 (.slice A1 bs.length c1) bs.length (u8s bs) := hown13.kept hg3 (own_own_ne hown13 hownT3 (by decide))
        have hown24 : w3.ownsRow (w.heap.size + 1) 5 1 (.slice A2 bs.length c2) bs.length (u8s bs) := hown23.kept hg3 (own_own_ne hown23 hownT3 (by decide))
        clear hrow3 hownT3 hown13 hown23 hg3 hat3 hbl4 hne
        refine ⟨hrow4, trivial, ?_⟩
        refine ⟨_, rfl, ?_⟩
        go_wp2_with fail
        refine (HB3.out _ _ _ (own_rd hown3) hbl5).mono ?_
        rintro e w4 ⟨A4, c4, rfl, hown4, hb4⟩
        have hown15 := own_up hown14 hb4
        have hown25 := own_up hown24 hb4
        have hbl6 := hbl5.trans (hb4.mono hbl5.size)
        clear hrow4 hown3 hown14 hown24 hbl5 hb4 HB3
        go_wp2_with fail
        refine ⟨trivial, ?_⟩
        refine ⟨_, ?_, rfl, Or.inl ⟨by rfl, ?_⟩, ?_⟩
        rotate_left
        · intro wS hSw
          skip
          go_simp
          try with_reducible rfl
        simp only [Act.put, List.setIfInBounds_toArray, List.set_cons_zero, List.set_cons_succ]
        refine ⟨_, ?_, rfl, Or.inl ⟨by rfl, ?_⟩, ?_⟩
        rotate_left
        · intro wS hSw
          skip
          go_simp
          try with_reducible rfl
        simp only [Act.put, List.setIfInBounds_toArray, List.set_cons_zero, List.set_cons_succ]
        refine ⟨_, ?_, rfl, Or.inl ⟨by rfl, ?_⟩, ?_⟩
        rotate_left
        · intro wS hSw
          skip
          go_simp
          try with_reducible rfl
        simp only [Act.put, List.setIfInBounds_toArray, List.set_cons_zero, List.set_cons_succ]
        refine ⟨_, ?_, rfl, Or.inl ⟨by rfl, ?_⟩, ?_⟩
        rotate_left
        · intro wS hSw
          skip
          go_simp
          try with_reducible rfl
        simp only [Act.put, List.setIfInBounds_toArray, List.set_cons_zero, List.set_cons_succ]
        have hcv1 := run_back (P := Try.prog) 27 9 5 (c := c1) Try.underlying27 Try.underlying5 Try.underlying9 (own_rd hown15)
        have hcv2 := run_back (P := Try.prog) 27 9 5 (c := c2) Try.underlying27 Try.underlying5 Try.underlying9 (own_rd hown25)
        have hcv3 := run_back (P := Try.prog) 27 9 5 (c := c4) Try.underlying27 Try.underlying5 Try.underlying9 (own_rd hown4)
        refine ⟨_, rfl, ?_⟩
        go_wp2_with fail
        refine ⟨trivial, ?_⟩
        refine NoPanic.normal ?_
        go_wp2_with fail
        refine (awake_any _).mono ?_
        rintro e w6 ⟨rfl, hb7⟩
        go_wp2_with fail
        go_ret
        exact ⟨rfl, hbl6.trans (hb7.mono hbl6.size)⟩
end Go.Proofs.Ythaceagaodjllaa
