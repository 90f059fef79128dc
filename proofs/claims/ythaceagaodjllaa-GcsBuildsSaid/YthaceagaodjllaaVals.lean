/- gcs.Values: what it computes, as a function of the bytes. Bytes up to 2^36. -/
import Derived.Test.YthaceagaodjllaaRiceR
import Derived.Test.YthaceagaodjllaaCodec2
import Derived.Test.YthaceagaodjllaaSipH
namespace Go.Proofs.Ythaceagaodjllaa
open Go.RowKit

/-- k numbers more. -/
def vGo (rest : List UInt8) (n : Nat) : Nat → Nat → Nat → List Nat → List Nat × Nat × Nat
  | 0, at_, _, acc => (acc, at_, 0)
  | k + 1, at_, last, acc =>
    if (bGet rest at_).2.2 ≠ 0 then ([], at_, (bGet rest at_).2.2)
    else if n * 784931 ≤ last + (bGet rest at_).1 then ([], at_, 5)
    else vGo rest n k (bGet rest at_).2.1 (last + (bGet rest at_).1) (acc ++ [last + (bGet rest at_).1])
def vRest (l : List UInt8) : List UInt8 := (rTake l (rVar l 0 0 1000).2.1 0 (l.length - (rVar l 0 0 1000).2.1)).1
def vEnd (rest : List UInt8) (n : Nat) (x : List Nat × Nat × Nat) : List Nat × Nat :=
  if x.2.2 ≠ 0 then ([], x.2.2) else if (n = 0 ∧ 0 < (bleft rest x.2.1).length) ∨ bClean (bleft rest x.2.1) = false then ([], 3) else (x.1, 0)
def vals (l : List UInt8) : List Nat × Nat :=
  if (rVar l 0 0 1000).2.2 ≠ 0 then ([], (rVar l 0 0 1000).2.2)
  else vEnd (vRest l) (rVar l 0 0 1000).1 (vGo (vRest l) (rVar l 0 0 1000).1 (rVar l 0 0 1000).1 0 0 [])

theorem rVar_le (l : List UInt8) (at_ e most : Nat) : (rVar l at_ e most).1 ≤ most := by
  unfold rVar rEnd
  split
  · exact Nat.zero_le _
  · split
    · exact Nat.zero_le _
    · split
      · exact Nat.zero_le _
      · simp only; omega
theorem rVar_at (l : List UInt8) (at_ e most : Nat) (h : at_ ≤ l.length) : (rVar l at_ e most).2.1 ≤ l.length := by
  have h1 : (rNum l at_ e 1).2.1 ≤ l.length := rTake_at l at_ e 1 h
  have h2 : (rWide l at_ (rNum l at_ e 1)).1.2.1 ≤ l.length := by
    unfold rWide
    split
    · exact rTake_at _ _ _ _ h1
    · split
      · exact rTake_at _ _ _ _ h1
      · split
        · exact rTake_at _ _ _ _ h1
        · exact h1
  unfold rVar rEnd
  split
  · exact h
  · split
    · exact h
    · split
      · exact h
      · exact h2
theorem Brd.grown {w w' : World} {B g : Nat} {l : List UInt8} {at_ : Nat} {row : Option Nat} (h : Brd w B g l at_) (hg : w.grownBy w' row) (hr : ∀ k, row = some k → g < k) : Brd w' B g l at_ := by
  obtain ⟨A, c, hrow, hrd⟩ := h.ex
  exact ⟨⟨A, c, hrow.grown hg (fun e => by have := hr _ e.symm; omega), hrd.grown hg (fun k hk => by have := hr k hk; have := h.bg; omega)⟩, h.le, h.bg⟩
theorem vnat_append (l r : List Nat) : vnat (l ++ r) = vnat l ++ vnat r := by simp [vnat]
theorem vnat_one (l : List Nat) : ∀ u ∈ vnat l, u.oneCell' = true := by
  intro u hu
  simp only [vnat, List.mem_map] at hu
  obtain ⟨b, _, rfl⟩ := hu
  rfl
theorem bGet_lt (l : List UInt8) (at_ : Nat) : (bGet l at_).1 < 34360262656 := by
  have h1 := bRun_le l at_ 65536
  have h2 := bTake_lt l (bRun l at_ 65536).2.1 19
  unfold bGet
  split
  · simp only; omega
  · split
    · simp only; omega
    · simp only; omega

set_option maxRecDepth 20000 in
set_option maxHeartbeats 1000000 in
theorem values_any (A : Option Addr) (c : Nat) (l : List UInt8) (w : World) (hrd : Rd w w.heap.size A (u8s l)) (hl : l.length ≤ 68719476736) :
    Calls Try.prog 14 #[.slice A l.length c] w fun e w' => ∃ A' c', e = .returned (.tuple #[.slice A' (vals l).1.length c', .int .i64 ((vals l).2 : Int)]) ∧
      w'.ownsRow w.heap.size 22 1 (.slice A' (vals l).1.length c') (vals l).1.length (vnat (vals l).1) ∧ Below w.heap.size w w' := by
  go_enter Try.func14, Try.ntmps14
  go_wp2_with fail
  refine (of_any A c l w hrd (by omega)).mono ?_
  rintro e w1 ⟨g, rfl, hg, hr1, hb1⟩
  go_wp2_with fail
  refine (var_any_r g l 0 0 1000 _ _ hr1 rfl (by omega) (by omega) (by omega)).mono ?_
  have hvle := rVar_le l 0 0 1000
  have hva := rVar_at l 0 0 1000 (by omega)
  have HE : Hid (vals l = if (rVar l 0 0 1000).2.2 ≠ 0 then ([], (rVar l 0 0 1000).2.2) else vEnd (vRest l) (rVar l 0 0 1000).1 (vGo (vRest l) (rVar l 0 0 1000).1 (rVar l 0 0 1000).1 0 0 [])) := rfl
  have HRest : Hid (vRest l = (rTake l (rVar l 0 0 1000).2.1 0 (l.length - (rVar l 0 0 1000).2.1)).1) := rfl
  rcases hv : rVar l 0 0 1000 with ⟨n, a1, e1⟩
  rw [hv] at hvle hva HE HRest
  clear hv
  simp only at hvle hva ⊢
  rintro e w2 ⟨rfl, hr2, hg2⟩
  have hb2 := hb1.trans (below_gr hg2 hg hr1.lt)
  have hgs2 := hr2.lt
  clear hr1 hg2 hb1
  have hn4 : n * 784931 < 18446744073709551616 := by omega
  have HN4 := Lib.hid hn4
  clear hn4
  go_wp2_with fail
  refine (err_any_r g l a1 e1 w2 hr2).mono ?_
  rintro e _ ⟨rfl, rfl⟩
  by_cases he : e1 = 0
  · subst he
    go_wp2_with fail
    refine (left_any_r g l a1 0 w2 hr2 hva (by omega)).mono ?_
    rintro e w3 ⟨rfl, hb3⟩
    have hr3 := hr2.keep hb3 hr2.lt
    go_wp2_with fail
    refine (take_any_r g l a1 0 (l.length - a1) _ w3 hr3 (by omega) (by omega) hva (by omega)).mono ?_
    rintro e w4 ⟨A4, c4, rfl, hown4, hr4, hg4⟩
    have hrl : (rTake l a1 0 (l.length - a1)).1 = vRest l := HRest.out.symm
    have hlr : (vRest l).length ≤ 68719476736 := by
      have := rTake_len l a1 0 (l.length - a1)
      rw [hrl] at this
      omega
    rw [hrl] at hown4 ⊢
    have hb4 := (hb2.trans (hb3.mono hb2.size)).trans (below_gr hg4 hg (by have := hb3.size; omega))
    have HV0 : Hid (vals l = vEnd (vRest l) n (vGo (vRest l) n n 0 0 [])) := by
      show vals l = _
      rw [HE.out]
      rfl
    clear hrl hg4 hr4 hr3 hb3 hb2 hr2 hgs2 HE HRest
    generalize vRest l = rest at *
    go_wp2_with fail
    refine (of_any_b A4 c4 rest w4 (own_rd hown4) (by omega)).mono ?_
    rintro e w5 ⟨gb, rfl, hgb, hbr5, hb5⟩
    have hb5' := hb4.trans (hb5.mono hb4.size)
    clear hown4
    have hgw : w.heap.size ≤ gb := Nat.le_trans hb4.size hgb
    go_wp2_with fail
    go_loopg [8, 9, 27] n (fun m out last i wx => ∃ (at_ la : Nat) (acc : List Nat) (A' : Option Addr) (c' : Nat), m ≤ n ∧ acc.length = n - m ∧ i = .int .u64 ((n - m : Nat) : Int) ∧ last = .int .u64 (la : Int) ∧ la ≤ 784931000 ∧ out = .slice A' acc.length c' ∧
      wx.ownsRow (gb + 1) 22 1 (.slice A' acc.length c') acc.length (vnat acc) ∧ Brd wx gb gb rest at_ ∧ Below w.heap.size w wx ∧ vGo rest n m at_ la acc = vGo rest n n 0 0 [])
    case atStart => exact ⟨0, 0, [], none, 0, by omega, by simp, by simp, rfl, by omega, rfl, World.ownsRow_nil _ _ _ _, hbr5, hb5', rfl⟩
    case round =>
      obtain ⟨at_, la, acc, A', c', hm, hal, rfl, rfl, hla, rfl, hown, hbr, hbl, hgo⟩ := hrel
      have HGO := Lib.hid hgo
      have HAL := Lib.hid hal
      clear hgo hal
      rcases Nat.eq_zero_or_pos gk with h0 | h0
      · subst h0
        have HV1 : Hid (vals l = vEnd rest n (acc, at_, 0)) := by
          show vals l = _
          rw [HV0.out, ← HGO.out]
          rfl
        clear HV0 HGO
        by_cases hn0 : n = 0
        · subst hn0
          go_wp2_with fail
          refine (left_any_b gb gb rest at_ wr hbr hlr).mono ?_
          rintro e w2 ⟨rfl, hb2'⟩
          have hbr2 := hbr.keep hb2' hbr.lt
          have hbl2 := hbl.trans (hb2'.mono hbl.size)
          have hown2 := own_up hown hb2'
          by_cases hp : 0 < (bleft rest at_).length
          · have HR : Hid (vals l = ([], 3)) := by
              show vals l = _
              rw [HV1.out]
              unfold vEnd
              rw [if_neg (by simp), if_pos (Or.inl ⟨rfl, hp⟩)]
            go_wp2_with fail
            go_ret2
            rw [HR.out]
            exact ⟨none, 0, rfl, World.ownsRow_nil _ _ _ _, hbl2⟩
          · have hp0 : (bleft rest at_).length = 0 := by omega
            have hpn : bleft rest at_ = [] := List.eq_nil_of_length_eq_zero hp0
            have hcl := clean_any_b gb gb rest at_ w2 hbr2 hlr
            rw [hpn] at hcl
            have HR : Hid (vals l = (acc, 0)) := by
              show vals l = _
              rw [HV1.out]
              unfold vEnd
              rw [if_neg (by simp), if_neg (by rw [hpn]; simp [bClean])]
            have HC := Lib.hid hcl
            clear hcl hpn
            go_wp2_with fail
            refine HC.out.mono ?_
            rintro e w3 ⟨rfl, hb3⟩
            have hbc : bClean [] = true := rfl
            go_wp2_with fail
            go_ret2
            rw [HR.out]
            exact ⟨_, _, rfl, own_base (own_up hown2 hb3) (by omega), hbl2.trans (hb3.mono hbl2.size)⟩
        · have hn0' : ((n : Int) == 0) = false := by rw [beq_eq_false_iff_ne]; omega
          go_wp2_with fail
          refine (clean_any_b gb gb rest at_ wr hbr hlr).mono ?_
          rintro e w2 ⟨rfl, hb2'⟩
          have hbl2 := hbl.trans (hb2'.mono hbl.size)
          have hown2 := own_up hown hb2'
          cases hcl : bClean (bleft rest at_) with
          | true =>
            have HR : Hid (vals l = (acc, 0)) := by
              show vals l = _
              rw [HV1.out]
              unfold vEnd
              rw [if_neg (by simp), if_neg (by rw [hcl]; simp [hn0])]
            clear hcl
            go_wp2_with fail
            go_ret2
            rw [HR.out]
            exact ⟨_, _, rfl, own_base hown2 (by omega), hbl2⟩
          | false =>
            have HR : Hid (vals l = ([], 3)) := by
              show vals l = _
              rw [HV1.out]
              unfold vEnd
              rw [if_neg (by simp), if_pos (Or.inr hcl)]
            clear hcl
            go_wp2_with fail
            go_ret2
            rw [HR.out]
            exact ⟨none, 0, rfl, World.ownsRow_nil _ _ _ _, hbl2⟩
      · have hlt : n - gk < n := by omega
        go_wp2_with fail
        refine (get_any gb gb rest at_ wr hbr hlr).mono ?_
        have hst := bGet_lt rest at_
        have HGO2 : Hid (vGo rest n gk at_ la acc = if (bGet rest at_).2.2 ≠ 0 then ([], at_, (bGet rest at_).2.2)
            else if n * 784931 ≤ la + (bGet rest at_).1 then ([], at_, 5)
            else vGo rest n (gk - 1) (bGet rest at_).2.1 (la + (bGet rest at_).1) (acc ++ [la + (bGet rest at_).1])) := by
          show vGo rest n gk at_ la acc = _
          obtain ⟨d, rfl⟩ : ∃ d, gk = d + 1 := ⟨gk - 1, by omega⟩
          rw [vGo]; rfl
        rcases hgt : bGet rest at_ with ⟨st, a2, e2⟩
        rw [hgt] at hst HGO2
        clear hgt
        simp only at hst ⊢
        rintro e w2 ⟨rfl, hbr2, hg2⟩
        have hown2 := own_gr hown hg2 (by omega)
        have hbl2 := hbl.trans (below_gr hg2 hgw hbr.lt)
        by_cases he : e2 = 0
        · subst he
          by_cases hb : n * 784931 ≤ la + st
          · have HR : Hid (vals l = ([], 5)) := by
              show vals l = _
              rw [HV0.out, ← HGO.out, HGO2.out, if_neg (by simp), if_pos hb]
              rfl
            go_wp2_with fail
            go_ret2
            rw [HR.out]
            exact ⟨none, 0, rfl, World.ownsRow_nil _ _ _ _, hbl2⟩
          · have hsum : la + st ≤ 784931000 := by omega
            have hbf : decide (n * 784931 ≤ la + st) = false := by rw [decide_eq_false_iff_not]; exact hb
            have hbi : decide ((n : Int) * 784931 ≤ (la : Int) + (st : Int)) = false := by rw [decide_eq_false_iff_not]; omega
            have hbj : (la : Int) + (st : Int) < (n : Int) * 784931 := by omega
            have hacc : acc.length ≤ 1000 := by have := HAL.out; omega
            have hownA : (w2.alloc (.cells #[.int .u64 ((la : Int) + (st : Int))] 22)).ownsRow (gb + 1) 22 1 (.slice A' acc.length c') acc.length (vnat acc) := own_up hown2 (by (repeat' (first | (with_reducible exact Below.refl _ _) | (with_reducible assumption) | (with_reducible refine Below.alloc ?_ ?_ _) | (with_reducible refine Below.drew ?_) | (with_reducible refine below_drewN ?_ _) | (with_reducible refine Below.setCell ?_ ?_ _) | (first | (with_reducible exact Nat.le_refl _) | (with_reducible assumption) | omega | (simp; omega) | (simp; done)))))
            have hgl := hbr2.lt
            clear hb
            go_wp2_with (at_builtin; refine wpList_app el_u64 rfl (.tmp 44) (.tmp 46) rfl rfl hownA rfl (rd_one w2 22 _) (m := 1) (by simp) (one_int _ _) (by unfold maxLen; omega) (by omega) (by simp; omega) ?_; intro A3 c3 w3 hown3 hg3 hat3)
            go_roundg (gk - 1)
            case measure => omega
            case rel =>
              have hbrA : Brd (w2.alloc (.cells #[.int .u64 ((la : Int) + (st : Int))] 22)) gb gb rest a2 := hbr2.keep (by (repeat' (first | (with_reducible exact Below.refl _ _) | (with_reducible assumption) | (with_reducible refine Below.alloc ?_ ?_ _) | (with_reducible refine Below.drew ?_) | (with_reducible refine below_drewN ?_ _) | (with_reducible refine Below.setCell ?_ ?_ _) | (first | (with_reducible exact Nat.le_refl _) | (with_reducible assumption) | omega | (simp; omega) | (simp; done))))) hgl
              refine ⟨a2, la + st, acc ++ [la + st], A3, c3, by omega, by have := HAL.out; simp; omega, int_eq (by omega), int_eq (by simp), hsum, slice_eq (by simp), ?_, hbrA.grown hg3 (fun k hk => by have := (hownA.lt k hk).1; omega), ?_, ?_⟩
              · rw [List.length_append, List.length_singleton, vnat_append]
                simpa [vnat] using hown3
              · refine (hbl2.alloc hbl2.size _).trans (grown_below hownA hg3 (by omega) (by have := hbl2.size; simp; omega))
              · rw [← HGO.out, HGO2.out, if_neg (by simp), if_neg (by simpa using hbf)]
        · have he' : ((e2 : Int) != 0) = true := by rw [bne_iff_ne]; omega
          have HR : Hid (vals l = ([], e2)) := by
            show vals l = _
            rw [HV0.out, ← HGO.out, HGO2.out, if_pos he]
            exact if_pos he
          go_wp2_with fail
          go_ret2
          rw [HR.out]
          exact ⟨none, 0, rfl, World.ownsRow_nil _ _ _ _, hbl2⟩
  · have he' : ((e1 : Int) != 0) = true := by rw [bne_iff_ne]; omega
    have HV0 : Hid (vals l = ([], e1)) := by
      show vals l = _
      rw [HE.out]
      exact if_pos he
    go_wp2_with fail
    go_ret2
    rw [HV0.out]
    exact ⟨none, 0, rfl, World.ownsRow_nil _ _ _ _, hb2⟩
end Go.Proofs.Ythaceagaodjllaa
