/- The reference's Values (13): the program's. Texts up to 2^36. -/
import Derived.Test.YthaceagaodjllaaVals
import Derived.Test.YthaceagaodjllaaCntLaw
import Derived.Test.YthaceagaodjllaaRef12
namespace Go.Proofs.Ythaceagaodjllaa
open Go.RowKit

theorem vRest_eq (l : List UInt8) (h : (rVar l 0 0 1000).2.2 = 0) : vRest l = l.drop (rVar l 0 0 1000).2.1 := by
  have ha := rVar_at l 0 0 1000 (by omega)
  unfold vRest rTake
  rw [if_neg (by simp), if_neg (by omega)]
  simp only
  rw [List.take_of_length_le (by simp)]
theorem bval_zero (l : List Bool) : bval l = 0 ↔ l.all (fun b => !b) = true := by
  induction l using snoc_rec with
  | nil => simp
  | snoc r b ih =>
    rw [bval_snoc, List.all_append, Bool.and_eq_true, ← ih]
    cases b <;> simp
    omega
theorem bleft_zero (l : List UInt8) : bleft l 0 = unpack l := by simp [bleft]
theorem bGet_at (l : List UInt8) (at_ : Nat) (h : at_ ≤ 8 * l.length) : (bGet l at_).2.1 ≤ 8 * l.length := by
  have h1 := bRun_at l at_ 65536 h
  have h2 := bleft_length l (bRun l at_ 65536).2.1
  unfold bGet
  split
  · exact h
  · split
    · exact h
    · simp only
      unfold bTake
      split
      · exact h1
      · simp only; omega

set_option maxRecDepth 20000 in
set_option maxHeartbeats 1000000 in
theorem values13_any (l : List UInt8) (w : World) (hl : l.length ≤ 68719476736) :
    Calls Try.prog 15 #[.string (tx l)] w fun e w' => ∃ A' c', e = .returned (.tuple #[.slice A' (vals l).1.length c', .int .i64 ((vals l).2 : Int)]) ∧
      w'.ownsRow w.heap.size 22 1 (.slice A' (vals l).1.length c') (vals l).1.length (vnat (vals l).1) ∧ Below w.heap.size w w' := by
  go_enter Try.func15, Try.ntmps15
  go_wp2_with fail
  refine (count_any l 1000 1000 _ rfl (by omega) hl).mono ?_
  rw [cnt_eq]
  have hvle := rVar_le l 0 0 1000
  have hva := rVar_at l 0 0 1000 (by omega)
  have HE : Hid (vals l = if (rVar l 0 0 1000).2.2 ≠ 0 then ([], (rVar l 0 0 1000).2.2) else vEnd (vRest l) (rVar l 0 0 1000).1 (vGo (vRest l) (rVar l 0 0 1000).1 (rVar l 0 0 1000).1 0 0 [])) := rfl
  have HRest : Hid ((rVar l 0 0 1000).2.2 = 0 → vRest l = l.drop (rVar l 0 0 1000).2.1) := Lib.hid (vRest_eq l)
  rcases hv : rVar l 0 0 1000 with ⟨n, a1, e1⟩
  rw [hv] at hvle hva HE HRest
  clear hv
  simp only at hvle hva ⊢
  rintro e w1 ⟨rfl, hb1⟩
  have hn4 : n * 784931 < 18446744073709551616 := by omega
  have HN4 := Lib.hid hn4
  clear hn4
  have hbx := hb1.alloc hb1.size (.cells #[.string (tx (l.drop a1)), .int .i64 (e1 : Int)] 73)
  have hrowx : Row (w1.alloc (.cells #[.string (tx (l.drop a1)), .int .i64 (e1 : Int)] 73)) w1.heap.size 73 [.string (tx (l.drop a1)), .int .i64 (e1 : Int)] := Row.new w1 _ [.string (tx (l.drop a1)), .int .i64 (e1 : Int)]
  by_cases he : e1 = 0
  · subst he
    have hrest := HRest.out rfl
    have HV0 : Hid (vals l = vEnd (vRest l) n (vGo (vRest l) n n 0 0 [])) := by
      show vals l = _
      rw [HE.out]
      rfl
    have hlr : (vRest l).length ≤ 68719476736 := by rw [hrest]; simp; omega
    rw [← hrest] at hbx hrowx ⊢
    clear hrest HE HRest
    generalize vRest l = rest at *
    have hsz : (tx rest).size = rest.length := by simp
    by_cases hn0 : n = 0
    · subst hn0
      by_cases hp : 0 < rest.length
      · have HR : Hid (vals l = ([], 3)) := by
          show vals l = _
          rw [HV0.out]
          unfold vEnd vGo
          rw [if_neg (by simp), if_pos (Or.inl ⟨rfl, by simp [bleft]; omega⟩)]
        go_wp2_with fail
        go_ret2
        rw [HR.out]
        exact ⟨none, 0, rfl, World.ownsRow_nil _ _ _ _, hbx⟩
      · have hpn : rest = [] := List.eq_nil_of_length_eq_zero (by omega)
        have HR : Hid (vals l = ([], 0)) := by
          show vals l = _
          rw [HV0.out]
          unfold vEnd vGo
          rw [if_neg (by simp), if_neg (by rw [hpn]; simp [bleft, bClean])]
        clear hpn
        go_wp2_with fail
        go_ret2
        rw [HR.out]
        exact ⟨none, 0, rfl, World.ownsRow_nil _ _ _ _, hbx⟩
    · have hn0' : ((n : Int) == 0) = false := by rw [beq_eq_false_iff_ne]; omega
      go_wp2_with (refine wpList_bytes 9 27 5 rfl (.tmp 31) rfl Try.underlying9 Try.underlying27 Try.underlying5 (l := rest) rfl ?_; intro A1 c1 w2 hc1 hrd1 hb2)
      refine (all11_any A1 c1 rest _ hrd1 hlr).mono ?_
      rintro e _ ⟨rfl, rfl⟩
      have hb3 := hbx.trans (hb2.mono hbx.size)
      clear hrowx hbx hb1 hb2 hrd1
      rw [← bleft_zero]
      go_wp2_with fail
      go_loopg [6, 7, 8, 9] n (fun m s out sum i wx => ∃ (at_ la : Nat) (acc : List Nat) (A' : Option Addr) (c' : Nat), m ≤ n ∧ at_ ≤ 8 * rest.length ∧ acc.length = n - m ∧ i = .int .u64 ((n - m : Nat) : Int) ∧ sum = .int .u64 (la : Int) ∧ la ≤ 784931000 ∧ out = .slice A' acc.length c' ∧
        s = .string (tx (bt (bleft rest at_))) ∧ wx.ownsRow w.heap.size 22 1 (.slice A' acc.length c') acc.length (vnat acc) ∧ Below w.heap.size w wx ∧ vGo rest n m at_ la acc = vGo rest n n 0 0 [])
      case atStart => exact ⟨0, 0, [], none, 0, by omega, by omega, by simp, by simp, rfl, by omega, rfl, rfl, World.ownsRow_nil _ _ _ _, hb3, rfl⟩
      case round =>
        obtain ⟨at_, la, acc, A', c', hm, hat, hal, rfl, rfl, hla, rfl, rfl, hown, hbl, hgo⟩ := hrel
        have HGO := Lib.hid hgo
        have HAL := Lib.hid hal
        clear hgo hal
        rcases Nat.eq_zero_or_pos gk with h0 | h0
        · subst h0
          have HV1 : Hid (vals l = vEnd rest n (acc, at_, 0)) := by
            show vals l = _
            rw [HV0.out, ← HGO.out]
            rfl
          clear HV0 HGO
          have HN0 := Lib.hid hn0
          clear hn0
          by_cases h8 : 8 ≤ (bleft rest at_).length
          · have hsz8 : (tx (bt (bleft rest at_))).size = (bleft rest at_).length := by simp
            have HR : Hid (vals l = ([], 3)) := by
              show vals l = _
              rw [HV1.out]
              unfold vEnd
              rw [if_neg (by simp), if_pos (Or.inr (by simp [bClean]; omega))]
            go_wp2_with fail
            go_ret2
            rw [HR.out]
            exact ⟨none, 0, rfl, World.ownsRow_nil _ _ _ _, hbl⟩
          · have hsz8 : (tx (bt (bleft rest at_))).size = (bleft rest at_).length := by simp
            have hnum := number11_any (bleft rest at_) wr (by omega)
            by_cases hz : bval (bleft rest at_) = 0
            · have HR : Hid (vals l = (acc, 0)) := by
                show vals l = _
                rw [HV1.out]
                unfold vEnd
                rw [if_neg (by simp), if_neg (by simp only [bClean, (bval_zero _).1 hz]; simp [HN0.out]; omega)]
              rw [hz] at hnum
              have HNUM := Lib.hid hnum
              clear hz hnum
              go_wp2_with fail
              refine HNUM.out.mono ?_
              rintro e _ ⟨rfl, rfl⟩
              go_wp2_with fail
              go_ret2
              rw [HR.out]
              exact ⟨_, _, rfl, hown, hbl⟩
            · have hz' : ((bval (bleft rest at_) : Int) != 0) = true := by rw [bne_iff_ne]; omega
              have HR : Hid (vals l = ([], 3)) := by
                show vals l = _
                rw [HV1.out]
                unfold vEnd
                rw [if_neg (by simp), if_pos (Or.inr (by
                  cases h : bClean (bleft rest at_) with
                  | false => rfl
                  | true =>
                    simp only [bClean, Bool.and_eq_true] at h
                    exact absurd ((bval_zero _).2 h.2) hz))]
              have HNUM := Lib.hid hnum
              clear hz hnum
              go_wp2_with fail
              refine HNUM.out.mono ?_
              rintro e _ ⟨rfl, rfl⟩
              go_wp2_with fail
              go_ret2
              rw [HR.out]
              exact ⟨none, 0, rfl, World.ownsRow_nil _ _ _ _, hbl⟩
        · have hlt : n - gk < n := by omega
          go_wp2_with fail
          refine (get12_any rest at_ wr hat hlr).mono ?_
          have hst := bGet_lt rest at_
          have ha2 := bGet_at rest at_ hat
          have HGO2 : Hid (vGo rest n gk at_ la acc = if (bGet rest at_).2.2 ≠ 0 then ([], at_, (bGet rest at_).2.2)
              else if n * 784931 ≤ la + (bGet rest at_).1 then ([], at_, 5)
              else vGo rest n (gk - 1) (bGet rest at_).2.1 (la + (bGet rest at_).1) (acc ++ [la + (bGet rest at_).1])) := by
            show vGo rest n gk at_ la acc = _
            obtain ⟨d, rfl⟩ : ∃ d, gk = d + 1 := ⟨gk - 1, by omega⟩
            rw [vGo]; rfl
          rcases hgt : bGet rest at_ with ⟨st, a2, e2⟩
          rw [hgt] at hst HGO2 ha2
          clear hgt
          simp only at hst ha2 ⊢
          rintro e w2' ⟨rfl, hb2'⟩
          have hown2 := own_up hown hb2'
          have hbl2 := hbl.trans (hb2'.mono hbl.size)
          by_cases he : e2 = 0
          · subst he
            by_cases hb : n * 784931 ≤ la + st
            · have HR : Hid (vals l = ([], 5)) := by
                show vals l = _
                rw [HV0.out, ← HGO.out, HGO2.out, if_neg (by simp), if_pos hb]
                rfl
              go_wp2_with fail
              go_ret2
              rw [HR.out]
              exact ⟨none, 0, rfl, World.ownsRow_nil _ _ _ _, hbl2⟩
            · have hsum : la + st ≤ 784931000 := by omega
              have hbf : decide (n * 784931 ≤ la + st) = false := by rw [decide_eq_false_iff_not]; exact hb
              have hbi : decide ((n : Int) * 784931 ≤ (la : Int) + (st : Int)) = false := by rw [decide_eq_false_iff_not]; omega
              have hbj : (la : Int) + (st : Int) < (n : Int) * 784931 := by omega
              have hacc : acc.length ≤ 1000 := by have := HAL.out; omega
              have hownA : (w2'.alloc (.cells #[.int .u64 ((la : Int) + (st : Int))] 22)).ownsRow w.heap.size 22 1 (.slice A' acc.length c') acc.length (vnat acc) := own_up hown2 (by (repeat' (first | (with_reducible exact Below.refl _ _) | (with_reducible assumption) | (with_reducible refine Below.alloc ?_ ?_ _) | (with_reducible refine Below.drew ?_) | (with_reducible refine below_drewN ?_ _) | (with_reducible refine Below.setCell ?_ ?_ _) | (first | (with_reducible exact Nat.le_refl _) | (with_reducible assumption) | omega | (simp; omega) | (simp; done)))))
              have hsz2 := hbl2.size
              clear hb
              go_wp2_with (at_builtin; refine wpList_app el_u64 rfl (.tmp 56) (.tmp 58) rfl rfl hownA rfl (rd_one w2' 22 _) (m := 1) (by simp) (one_int _ _) (by unfold maxLen; omega) (by omega) (by simp; omega) ?_; intro A3 c3 w3 hown3 hg3 hat3)
              go_roundg (gk - 1)
              case measure => omega
              case rel =>
                refine ⟨a2, la + st, acc ++ [la + st], A3, c3, by omega, ha2, by have := HAL.out; simp; omega, int_eq (by omega), int_eq (by simp), hsum, slice_eq (by simp), rfl, ?_, ?_, ?_⟩
                · rw [List.length_append, List.length_singleton, vnat_append]
                  simpa [vnat] using hown3
                · refine (hbl2.alloc hbl2.size _).trans (grown_below hownA hg3 (by omega) (by simp; omega))
                · rw [← HGO.out, HGO2.out, if_neg (by simp), if_neg (by simpa using hbf)]
          · have he' : ((e2 : Int) != 0) = true := by rw [bne_iff_ne]; omega
            have HR : Hid (vals l = ([], e2)) := by
              show vals l = _
              rw [HV0.out, ← HGO.out, HGO2.out, if_pos he]
              exact if_pos he
            go_wp2_with fail
            go_ret2
            rw [HR.out]
            exact ⟨none, 0, rfl, World.ownsRow_nil _ _ _ _, hbl2⟩
  · have he' : ((e1 : Int) != 0) = true := by rw [bne_iff_ne]; omega
    have HV0 : Hid (vals l = ([], e1)) := by
      show vals l = _
      rw [HE.out]
      exact if_pos he
    have hc := hrowx.cell
    go_wp2_with fail
    go_quiet (fail)
    go_wp2_with fail
    go_ret2
    rw [HV0.out]
    exact ⟨none, 0, rfl, World.ownsRow_nil _ _ _ _, by (repeat' (first | (with_reducible exact Below.refl _ _) | (with_reducible assumption) | (with_reducible refine Below.alloc ?_ ?_ _) | (with_reducible refine Below.drew ?_) | (with_reducible refine below_drewN ?_ _) | (with_reducible refine Below.setCell ?_ ?_ _) | (first | (with_reducible exact Nat.le_refl _) | (with_reducible assumption) | omega | (simp; omega) | (simp; done))))⟩
end Go.Proofs.Ythaceagaodjllaa
