/- The reference's Once, Numbers (13): the program's 'unlike', and its numbers in order. -/
import Derived.Test.YthaceagaodjllaaRefAny
import Derived.Test.YthaceagaodjllaaIns
namespace Go.Proofs.Ythaceagaodjllaa
open Go.RowKit

theorem vnat_take (l : List Nat) (k : Nat) : vnat (l.take k) = (vnat l).take k := by simp [vnat, List.map_take]
theorem vnat_drop (l : List Nat) (k : Nat) : vnat (l.drop k) = (vnat l).drop k := by simp [vnat, List.map_drop]

set_option maxRecDepth 20000 in
set_option maxHeartbeats 2000000 in
theorem once13_any (A : Option Addr) (c : Nat) (ls : List (List UInt8)) (w : World) (hrd : Rd w w.heap.size A (strs ls)) (hl : ls.length ≤ 1073741824) :
    Calls Try.prog 52 #[.slice A ls.length c] w fun e w' => ∃ A' c', e = .returned (.slice A' (onceL ls).length c') ∧ w'.ownsRow w.heap.size 9 1 (.slice A' (onceL ls).length c') (onceL ls).length (strs (onceL ls)) ∧ Below w.heap.size w w' := by
  go_enter Try.func52, Try.ntmps52
  go_wp2_with fail
  go_loopg [3, 11] ls.length (fun m out i wx => ∃ (k : Nat) (A' : Option Addr) (c' : Nat), m = ls.length - k ∧ k ≤ ls.length ∧ i = .int .i64 (k : Int) ∧ out = .slice A' (onceL (ls.take k)).length c' ∧
    wx.ownsRow w.heap.size 9 1 (.slice A' (onceL (ls.take k)).length c') (onceL (ls.take k)).length (strs (onceL (ls.take k))) ∧ Below w.heap.size w wx)
  case atStart => exact ⟨0, none, 0, by omega, by omega, rfl, rfl, by simpa [strs] using World.ownsRow_nil _ _ _ _, Below.refl _ _⟩
  case round =>
    obtain ⟨k, A', c', rfl, hk, rfl, rfl, hown, hbl⟩ := hrel
    have hol := onceL_length (ls.take k)
    have hol2 : (ls.take k).length ≤ k := by simp; omega
    by_cases hlt : k < ls.length
    · obtain ⟨b, off, rfl, _, _, hcell⟩ := (hrd.below hbl).at (k := k) (by simpa using hlt)
      rw [strs_get _ _ hlt] at hcell
      have HT : Hid (onceL (ls.take (k + 1)) = if ls[k] ∈ onceL (ls.take k) then onceL (ls.take k) else onceL (ls.take k) ++ [ls[k]]) := Lib.hid (by rw [take_snoc ls k hlt, onceL_snoc])
      generalize onceL (ls.take k) = acc at *
      generalize ls[k] = t at *
      have hrd1 := own_rd hown
      obtain ⟨w0, hw0⟩ : ∃ w0 : World, w0 = wr := ⟨_, rfl⟩
      subst hw0
      go_wp2_with fail
      go_loopg [6, 17] acc.length (fun m th i wx => ∃ j : Nat, m = acc.length - j ∧ j ≤ acc.length ∧ i = .int .i64 (j : Int) ∧ th = .bool (decide (t ∈ acc.take j)) ∧ w0 = wx)
      case atStart => exact ⟨0, by omega, by omega, rfl, by simp, rfl⟩
      case round =>
        obtain ⟨j, rfl, hj, rfl, rfl, rfl⟩ := hrel
        by_cases hjl : j < acc.length
        · obtain ⟨b1, o1, rfl, _, _, hc1⟩ := hrd1.at (k := j) (by simpa using hjl)
          rw [strs_get _ _ hjl] at hc1
          have HJ : Hid (decide (t ∈ acc.take (j + 1)) = (decide (t ∈ acc.take j) || decide (t = acc[j]))) := Lib.hid (by rw [take_snoc acc j hjl]; simp only [List.mem_append, List.mem_singleton, Bool.decide_or])
          generalize acc[j] = v at *
          cases hth : decide (t ∈ acc.take j) with
          | true =>
            rw [hth] at HJ
            clear hth
            go_wp2_with fail
            go_roundg (acc.length - (j + 1))
            case measure => omega
            case rel => exact ⟨j + 1, rfl, by omega, by go_num, by rw [HJ.out]; rfl, rfl⟩
          | false =>
            rw [hth] at HJ
            clear hth
            by_cases hvy : t = v
            · subst hvy
              have hbe : ((tx t).toList == (tx t).toList) = true := by simp
              go_wp2_with fail
              go_roundg (acc.length - (j + 1))
              case measure => omega
              case rel => exact ⟨j + 1, rfl, by omega, by go_num, by rw [HJ.out]; simp, rfl⟩
            · have hbe : ((tx t).toList == (tx v).toList) = false := by rw [tx_toList, tx_toList, beq_eq_false_iff_ne]; exact hvy
              have hdv : decide (t = v) = false := decide_eq_false hvy
              have HJ2 := Lib.hid (HJ.out.trans (by rw [hdv]; rfl : _ = false))
              clear hvy hdv
              go_wp2_with fail
              go_roundg (acc.length - (j + 1))
              case measure => omega
              case rel => exact ⟨j + 1, rfl, by omega, by go_num, by rw [HJ2.out], rfl⟩
        · obtain rfl : j = acc.length := by omega
          rw [List.take_length]
          by_cases hm : t ∈ acc
          · have HT1 := Lib.hid (HT.out.trans (if_pos hm))
            have hd : decide (t ∈ acc) = true := decide_eq_true hm
            clear hm
            rw [hd]
            go_wp2_with fail
            go_roundg (ls.length - (k + 1))
            case measure => omega
            case rel => exact ⟨k + 1, A', c', rfl, by omega, by go_num, by rw [HT1.out], by rw [HT1.out]; exact hown, hbl⟩
          · have HT1 := Lib.hid (HT.out.trans (if_neg hm))
            have hd : decide (t ∈ acc) = false := decide_eq_false hm
            have hownA : (w0.alloc (.cells #[.string (tx t)] 9)).ownsRow w.heap.size 9 1 (.slice A' acc.length c') acc.length (strs acc) := own_up hown (by (repeat' (first | (with_reducible exact Below.refl _ _) | (with_reducible assumption) | (with_reducible refine Below.alloc ?_ ?_ _) | (with_reducible refine Below.drew ?_) | (with_reducible refine below_drewN ?_ _) | (with_reducible refine Below.setCell ?_ ?_ _) | (first | (with_reducible exact Nat.le_refl _) | (with_reducible assumption) | omega | (simp; omega) | (simp; done)))))
            have hs := hbl.size
            clear hm
            rw [hd]
            go_wp2_with (at_builtin; refine wpList_app el_str rfl (.tmp 30) (.tmp 32) rfl rfl hownA rfl (rd_one w0 9 _) (m := 1) (by simp) (one_str _) (by unfold maxLen; omega) (by omega) (by simp; omega) ?_; intro A3 c3 w3 hown3 hg3 hat3)
            go_roundg (ls.length - (k + 1))
            case measure => omega
            case rel =>
              refine ⟨k + 1, A3, c3, rfl, by omega, by go_num, ?_, ?_, ?_⟩
              · rw [HT1.out]; exact slice_eq (by simp)
              · rw [HT1.out, List.length_append, List.length_singleton, strs_append]; exact hown3
              · exact (hbl.alloc hbl.size _).trans (grown_below hownA hg3 (by omega) (by simp; omega))
    · obtain rfl : k = ls.length := by omega
      rw [List.take_length] at *
      go_wp2_with fail
      go_ret
      exact ⟨A', c', rfl, hown, hbl⟩


set_option maxRecDepth 20000 in
set_option maxHeartbeats 4000000 in
theorem numbers13_any (k0 k1 : Int) (A : Option Addr) (c : Nat) (ls : List (List UInt8)) (w : World) (hrd : Rd w w.heap.size A (strs ls)) (hl : ls.length ≤ 1000000) (hts : ∀ t ∈ ls, t.length ≤ 65536) :
    Calls Try.prog 26 #[.agg #[.int .u64 k0, .int .u64 k1], .slice A ls.length c] w fun e w' => ∃ A' c', e = .returned (.slice A' (onceL ls).length c') ∧
      w'.ownsRow w.heap.size 22 1 (.slice A' (onceL ls).length c') (onceL ls).length (vnat (numsL k0 k1 ls)) ∧ Below w.heap.size w w' := by
  have hol := onceL_length ls
  have HTS : Hid (∀ t ∈ onceL ls, t.length ≤ 65536) := Lib.hid (fun t ht => hts t ((mem_onceL ls t).1 ht))
  have HN : Hid (insAll ((onceL ls).map (itemN k0 k1 (784931 * (onceL ls).length))) = numsL k0 k1 ls) := Lib.hid (insAll_sortN _)
  have hbA : Below w.heap.size w (w.alloc (.cells #[.int .u64 k0, .int .u64 k1] 23)) := by (repeat' (first | (with_reducible exact Below.refl _ _) | (with_reducible assumption) | (with_reducible refine Below.alloc ?_ ?_ _) | (with_reducible refine Below.drew ?_) | (with_reducible refine below_drewN ?_ _) | (with_reducible refine Below.setCell ?_ ?_ _) | (first | (with_reducible exact Nat.le_refl _) | (with_reducible assumption) | omega | (simp; omega) | (simp; done))))
  have hrowA : Row (w.alloc (.cells #[.int .u64 k0, .int .u64 k1] 23)) w.heap.size 23 [.int .u64 k0, .int .u64 k1] := Row.new w _ [.int .u64 k0, .int .u64 k1]
  have honce := once13_any A c ls (w.alloc (.cells #[.int .u64 k0, .int .u64 k1] 23)) ((hrd.below hbA).more (by simp)) (by omega)
  have HO := Lib.hid honce
  clear hts honce
  generalize onceL ls = us at *
  go_enter Try.func26, Try.ntmps26
  go_wp2_with fail
  refine HO.out.mono ?_
  rintro e w1 ⟨A1, c1, rfl, hown1, hb1⟩
  have hrow1 := hrowA.below hb1 hrowA.lt
  have hbl1 := hbA.trans (hb1.mono hbA.size)
  have hownu := own_base (base' := w.heap.size + 1) hown1 (by simp)
  clear hrowA hbA hb1 hown1 HO
  go_wp2_with fail
  go_loopg [6, 16] us.length (fun m out i wx => ∃ (k : Nat) (A' : Option Addr) (c' : Nat), m = us.length - k ∧ k ≤ us.length ∧ i = .int .i64 (k : Int) ∧ out = .slice A' k c' ∧ Row wx w.heap.size 23 [.int .u64 k0, .int .u64 k1] ∧
    wx.ownsRow (w.heap.size + 1) 9 1 (.slice A1 us.length c1) us.length (strs us) ∧
    wx.ownsRow (w.heap.size + 1) 22 1 (.slice A' k c') k (vnat (insAll ((us.take k).map (itemN k0 k1 (784931 * us.length))))) ∧ Below w.heap.size w wx)
  case atStart => exact ⟨0, none, 0, by omega, by omega, rfl, rfl, hrow1, hownu, by simpa [insAll, vnat] using World.ownsRow_nil _ _ _ _, hbl1⟩
  case round =>
    obtain ⟨k, A', c', rfl, hk, rfl, rfl, hrow, hou, ho, hbl⟩ := hrel
    clear hrow1 hownu hbl1
    by_cases hlt : k < us.length
    · obtain ⟨b, off, rfl, _, _, hcell⟩ := (own_rd hou).at (k := k) (by simpa using hlt)
      rw [strs_get _ _ hlt] at hcell
      have HT : Hid (insAll ((us.take (k + 1)).map (itemN k0 k1 (784931 * us.length))) = insN (itemN k0 k1 (784931 * us.length) us[k]) (insAll ((us.take k).map (itemN k0 k1 (784931 * us.length))))) := Lib.hid (by
        rw [take_snoc us k hlt, List.map_append, List.map_cons, List.map_nil, insAll_snoc])
      have hak : (insAll ((us.take k).map (itemN k0 k1 (784931 * us.length)))).length = k := by rw [insAll_length]; simp; omega
      have htl := HTS.out us[k] (List.getElem_mem hlt)
      generalize insAll ((us.take k).map (itemN k0 k1 (784931 * us.length))) = acc at *
      generalize us[k] = t at *
      have hnum := number13_any k0 k1 t us.length (us.length : Int) wr rfl (by omega) htl
      generalize itemN k0 k1 (784931 * us.length) t = x at *
      have HNUM := Lib.hid hnum
      clear hnum htl
      have hcr := hrow.cell
      go_wp2_with fail
      refine HNUM.out.mono ?_
      rintro e w0 ⟨rfl, hb0⟩
      have hrow0 := hrow.below hb0 hrow.lt
      have hou0 := own_up hou hb0
      have ho0 := own_up ho hb0
      have hbl0 := hbl.trans (hb0.mono hbl.size)
      clear hrow hou ho hbl hb0 HNUM hcr hcell
      have hrd0 := own_rd ho0
      go_wp2_with fail
      go_loopg [10] k (fun m i wx => ∃ j : Nat, m = k - j ∧ j ≤ k ∧ i = .int .i64 (j : Int) ∧ Hid (∀ q (h : q < acc.length), q < j → acc[q] ≤ x) ∧ w0 = wx)
      case atStart => exact ⟨0, by omega, by omega, rfl, Lib.hid (fun q _ h => by omega), rfl⟩
      case round =>
        obtain ⟨j, rfl, hj, rfl, HQ, rfl⟩ := hrel
        have ho := ho0
        by_cases hjl : j < k
        · obtain ⟨b1, o1, e1, _, _, hc1⟩ := hrd0.at (k := j) (by simp; omega)
          subst e1
          rw [vnat_get _ _ (by omega)] at hc1
          by_cases hle : acc[j]'(by omega) ≤ x
          · have HQ1 : Hid (∀ q (h : q < acc.length), q < j + 1 → acc[q] ≤ x) := Lib.hid (fun q h hq => by
              rcases Nat.lt_or_ge q j with h2 | h2
              · exact HQ.out q h h2
              · obtain rfl : q = j := by omega
                exact hle)
            have hd : decide (((acc[j]'(by omega) : Nat) : Int) ≤ (x : Int)) = true := by rw [decide_eq_true_eq]; omega
            generalize (acc[j]'(by omega)) = v at *
            go_wp2_with fail
            go_roundg (k - (j + 1))
            case measure => omega
            case rel => exact ⟨j + 1, rfl, by omega, by go_num, HQ1, rfl⟩
          · have hex : ∀ h : j < acc.length, x < acc[j] := fun h => by omega
            have hd : decide (((acc[j]'(by omega) : Nat) : Int) ≤ (x : Int)) = false := by rw [decide_eq_false_iff_not]; omega
            have hsrc := hrd0.shift j
            rw [← vnat_drop] at hsrc
            generalize hv : (acc[j]'(by omega)) = v at *
            have hat : atN x acc = j := atN_eq x acc j HQ.out (by omega) (fun h => by have := hex h; omega)
            have HI : Hid (insN x acc = acc.take j ++ x :: acc.drop j) := Lib.hid (by unfold insN; rw [hat])
            have hcap := own_cap ho
            have hjc : j ≤ c' := by omega
            have hrj := (own_rd ho).take j
            rw [← vnat_take] at hrj
            clear hat hex
            go_wp2_with (at_builtin; first
              | (refine wpList_app (base := w0.heap.size) el_u64 rfl (.tmp 39) (.tmp 42) rfl rfl (World.ownsRow_nil _ _ _ _) rfl hrj (m := j) (by simp; omega) (vnat_one _) (by unfold maxLen; omega) (by omega) (Nat.le_refl _) ?_; intro A3 c3 w3 hown3 hg3 hat3
                 rw [Nat.zero_add, List.nil_append] at hown3
                 have hb3 : Below w0.heap.size w0 w3 := grown_below (World.ownsRow_nil w0 w0.heap.size 22 1) hg3 (Nat.le_refl _) (Nat.le_refl _)
                 have hownA : (w3.alloc (.cells #[.int .u64 (x : Int)] 22)).ownsRow w0.heap.size 22 1 (.slice A3 j c3) j (vnat (acc.take j)) := own_up hown3 (by (repeat' (first | (with_reducible exact Below.refl _ _) | (with_reducible assumption) | (with_reducible refine Below.alloc ?_ ?_ _) | (with_reducible refine Below.drew ?_) | (with_reducible refine below_drewN ?_ _) | (with_reducible refine Below.setCell ?_ ?_ _) | (first | (with_reducible exact Nat.le_refl _) | (with_reducible assumption) | omega | (simp; omega) | (simp; done)))))
                 have hs3 := hb3.size
                 clear hg3 hat3 hown3)
              | (refine wpList_app (base := w0.heap.size) el_u64 rfl (.tmp 44) (.tmp 46) rfl rfl hownA rfl (rd_one w3 22 _) (m := 1) (by simp) (one_int _ _) (by unfold maxLen; omega) (by omega) (by simp; omega) ?_; intro A4 c4 w4 hown4 hg4 hat4
                 have hb4 : Below w0.heap.size w0 w4 := (hb3.alloc hs3 (.cells #[.int .u64 (x : Int)] 22)).trans (grown_below hownA hg4 (Nat.le_refl _) (by simp; omega))
                 have hs4 := hb4.size
                 clear hg4 hat4 hownA hb3)
              | (refine wpList_app (base := w0.heap.size) el_u64 rfl (.tmp 48) (.tmp 51) rfl rfl hown4 rfl (hsrc.below hb4) (m := k - j) (by simp; omega) (vnat_one (acc.drop j)) (by unfold maxLen; omega) (by omega) (by omega) ?_; intro A5 c5 w5 hown5 hg5 hat5
                 have hb5 : Below w0.heap.size w0 w5 := hb4.trans (grown_below hown4 hg5 (Nat.le_refl _) (by omega))
                 clear hg5 hat5 hown4 hb4))
            have hrow5 := hrow0.below hb5 hrow0.lt
            have hou5 := own_up hou0 hb5
            have hbl5 := hbl0.trans (hb5.mono hbl0.size)
            have hs0 := hrow0.lt
            go_roundg (us.length - (k + 1))
            case measure => omega
            case rel =>
              refine ⟨k + 1, A5, c5, rfl, by omega, by go_num, slice_eq (by omega), hrow5, hou5, ?_, hbl5⟩
              rw [HT.out, HI.out]
              have e : vnat (acc.take j ++ x :: acc.drop j) = vnat (acc.take j) ++ [.int .u64 (x : Int)] ++ vnat (acc.drop j) := by simp [vnat]
              have e2 : j + 1 + (k - j) = k + 1 := by omega
              rw [e]
              rw [e2] at hown5
              exact own_base hown5 (by omega)
        · obtain rfl : j = k := by omega
          have hex : ∀ h : j < acc.length, x < acc[j] := fun h => by omega
          by_cases hcj : c' = j
          · clear hjl
            have hat : atN x acc = j := atN_eq x acc j HQ.out (by omega) (fun h => by have := hex h; omega)
            have HI : Hid (insN x acc = acc.take j ++ x :: acc.drop j) := Lib.hid (by unfold insN; rw [hat])
            have hcap := own_cap ho
            have hjc : j ≤ c' := by omega
            have hrj := (own_rd ho).take j
            rw [← vnat_take] at hrj
            clear hat hex
            go_wp2_with (at_builtin; first
              | (refine wpList_app (base := w0.heap.size) el_u64 rfl (.tmp 39) (.tmp 42) rfl rfl (World.ownsRow_nil _ _ _ _) rfl hrj (m := j) (by simp; omega) (vnat_one _) (by unfold maxLen; omega) (by omega) (Nat.le_refl _) ?_; intro A3 c3 w3 hown3 hg3 hat3
                 rw [Nat.zero_add, List.nil_append] at hown3
                 have hb3 : Below w0.heap.size w0 w3 := grown_below (World.ownsRow_nil w0 w0.heap.size 22 1) hg3 (Nat.le_refl _) (Nat.le_refl _)
                 have hownA : (w3.alloc (.cells #[.int .u64 (x : Int)] 22)).ownsRow w0.heap.size 22 1 (.slice A3 j c3) j (vnat (acc.take j)) := own_up hown3 (by (repeat' (first | (with_reducible exact Below.refl _ _) | (with_reducible assumption) | (with_reducible refine Below.alloc ?_ ?_ _) | (with_reducible refine Below.drew ?_) | (with_reducible refine below_drewN ?_ _) | (with_reducible refine Below.setCell ?_ ?_ _) | (first | (with_reducible exact Nat.le_refl _) | (with_reducible assumption) | omega | (simp; omega) | (simp; done)))))
                 have hs3 := hb3.size
                 clear hg3 hat3 hown3)
              | (refine wpList_app (base := w0.heap.size) el_u64 rfl (.tmp 44) (.tmp 46) rfl rfl hownA rfl (rd_one w3 22 _) (m := 1) (by simp) (one_int _ _) (by unfold maxLen; omega) (by omega) (by simp; omega) ?_; intro A4 c4 w4 hown4 hg4 hat4
                 have hb4 : Below w0.heap.size w0 w4 := (hb3.alloc hs3 (.cells #[.int .u64 (x : Int)] 22)).trans (grown_below hownA hg4 (Nat.le_refl _) (by simp; omega))
                 have hs4 := hb4.size
                 clear hg4 hat4 hownA hb3)
              | (refine wpList_app (base := w0.heap.size) el_u64 rfl (.tmp 48) (.tmp 51) rfl rfl hown4 rfl (Rd.len0 (B := 0) (by simp; omega)) (m := 0) (by simp; omega) (vnat_one (acc.drop j)) (by unfold maxLen; omega) (by omega) (by omega) ?_; intro A5 c5 w5 hown5 hg5 hat5
                 have hb5 : Below w0.heap.size w0 w5 := hb4.trans (grown_below hown4 hg5 (Nat.le_refl _) (by omega))
                 clear hg5 hat5 hown4 hb4))
            have hrow5 := hrow0.below hb5 hrow0.lt
            have hou5 := own_up hou0 hb5
            have hbl5 := hbl0.trans (hb5.mono hbl0.size)
            have hs0 := hrow0.lt
            go_roundg (us.length - (j + 1))
            case measure => omega
            case rel =>
              refine ⟨j + 1, A5, c5, rfl, by omega, by go_num, slice_eq (by omega), hrow5, hou5, ?_, hbl5⟩
              rw [HT.out, HI.out]
              have e : vnat (acc.take j ++ x :: acc.drop j) = vnat (acc.take j) ++ [.int .u64 (x : Int)] ++ vnat (acc.drop j) := by simp [vnat]
              have e2 : j + 1 + (0) = j + 1 := by omega
              rw [e]
              rw [e2] at hown5
              exact own_base hown5 (by omega)
          · clear hjl
            have hat : atN x acc = j := atN_eq x acc j HQ.out (by omega) (fun h => by have := hex h; omega)
            have HI : Hid (insN x acc = acc.take j ++ x :: acc.drop j) := Lib.hid (by unfold insN; rw [hat])
            have hcap := own_cap ho
            have hjc : j ≤ c' := by omega
            have hrj := (own_rd ho).take j
            rw [← vnat_take] at hrj
            clear hat hex
            go_wp2_with (at_builtin; first
              | (refine wpList_app (base := w0.heap.size) el_u64 rfl (.tmp 39) (.tmp 42) rfl rfl (World.ownsRow_nil _ _ _ _) rfl hrj (m := j) (by simp; omega) (vnat_one _) (by unfold maxLen; omega) (by omega) (Nat.le_refl _) ?_; intro A3 c3 w3 hown3 hg3 hat3
                 rw [Nat.zero_add, List.nil_append] at hown3
                 have hb3 : Below w0.heap.size w0 w3 := grown_below (World.ownsRow_nil w0 w0.heap.size 22 1) hg3 (Nat.le_refl _) (Nat.le_refl _)
                 have hownA : (w3.alloc (.cells #[.int .u64 (x : Int)] 22)).ownsRow w0.heap.size 22 1 (.slice A3 j c3) j (vnat (acc.take j)) := own_up hown3 (by (repeat' (first | (with_reducible exact Below.refl _ _) | (with_reducible assumption) | (with_reducible refine Below.alloc ?_ ?_ _) | (with_reducible refine Below.drew ?_) | (with_reducible refine below_drewN ?_ _) | (with_reducible refine Below.setCell ?_ ?_ _) | (first | (with_reducible exact Nat.le_refl _) | (with_reducible assumption) | omega | (simp; omega) | (simp; done)))))
                 have hs3 := hb3.size
                 clear hg3 hat3 hown3)
              | (refine wpList_app (base := w0.heap.size) el_u64 rfl (.tmp 44) (.tmp 46) rfl rfl hownA rfl (rd_one w3 22 _) (m := 1) (by simp) (one_int _ _) (by unfold maxLen; omega) (by omega) (by simp; omega) ?_; intro A4 c4 w4 hown4 hg4 hat4
                 have hb4 : Below w0.heap.size w0 w4 := (hb3.alloc hs3 (.cells #[.int .u64 (x : Int)] 22)).trans (grown_below hownA hg4 (Nat.le_refl _) (by simp; omega))
                 have hs4 := hb4.size
                 clear hg4 hat4 hownA hb3)
              | (refine wpList_app (base := w0.heap.size) el_u64 rfl (.tmp 48) (.tmp 51) rfl rfl hown4 rfl (Rd.len0 (B := 0) (by simp; omega)) (m := 0) (by simp; omega) (vnat_one (acc.drop j)) (by unfold maxLen; omega) (by omega) (by omega) ?_; intro A5 c5 w5 hown5 hg5 hat5
                 have hb5 : Below w0.heap.size w0 w5 := hb4.trans (grown_below hown4 hg5 (Nat.le_refl _) (by omega))
                 clear hg5 hat5 hown4 hb4))
            have hrow5 := hrow0.below hb5 hrow0.lt
            have hou5 := own_up hou0 hb5
            have hbl5 := hbl0.trans (hb5.mono hbl0.size)
            have hs0 := hrow0.lt
            go_roundg (us.length - (j + 1))
            case measure => omega
            case rel =>
              refine ⟨j + 1, A5, c5, rfl, by omega, by go_num, slice_eq (by omega), hrow5, hou5, ?_, hbl5⟩
              rw [HT.out, HI.out]
              have e : vnat (acc.take j ++ x :: acc.drop j) = vnat (acc.take j) ++ [.int .u64 (x : Int)] ++ vnat (acc.drop j) := by simp [vnat]
              have e2 : j + 1 + (0) = j + 1 := by omega
              rw [e]
              rw [e2] at hown5
              exact own_base hown5 (by omega)
    · obtain rfl : k = us.length := by omega
      rw [List.take_length, HN.out] at ho
      go_wp2_with fail
      go_ret
      exact ⟨A', c', rfl, own_base ho (by omega), hbl⟩
end Go.Proofs.Ythaceagaodjllaa
