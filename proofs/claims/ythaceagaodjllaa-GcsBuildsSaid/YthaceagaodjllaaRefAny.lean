/- The reference's Number, Any (13); the law's small, texts. Lists of up to 2^30 items, items of up to 65536 bytes. -/
import Derived.Test.YthaceagaodjllaaAny
import Derived.BigQuiet
namespace Go.Proofs.Ythaceagaodjllaa
open Go.RowKit

theorem el_str : Elem Try.prog 32 9 (.string ⟨#[]⟩) 1 16 := ⟨Try.underlying32, by kernel_rfl, rfl, by decide⟩
def strs (ls : List (List UInt8)) : List Value := ls.map fun l => .string (tx l)
@[simp] theorem strs_length (ls : List (List UInt8)) : (strs ls).length = ls.length := by simp [strs]
theorem strs_append (l r : List (List UInt8)) : strs (l ++ r) = strs l ++ strs r := by simp [strs]
theorem strs_get (ls : List (List UInt8)) (k : Nat) (h : k < ls.length) : (strs ls)[k]'(by simpa using h) = .string (tx ls[k]) := by simp [strs]
theorem one_str (s : ByteArray) : ∀ u ∈ [Value.string s], u.oneCell' = true := by
  intro u hu
  simp only [List.mem_singleton] at hu
  subst hu
  rfl
/-- May items be gone through? -/
def smallB (ls : List (List UInt8)) : Bool := decide (ls.length ≤ 20) && ls.all fun l => decide (l.length ≤ 100)
theorem smallB_len (ls : List (List UInt8)) (h : smallB ls = true) : ls.length ≤ 20 := by simp [smallB] at h; exact h.1
theorem smallB_each (ls : List (List UInt8)) (h : smallB ls = true) (k : Nat) (hk : k < ls.length) : ls[k].length ≤ 100 := by
  simp [smallB] at h
  exact h.2 _ (List.getElem_mem hk)

set_option maxRecDepth 20000 in
set_option maxHeartbeats 1000000 in
theorem small_any (A : Option Addr) (c : Nat) (vs : List Value) (ls : List (List UInt8)) (w : World) (hrd : Rd w w.heap.size A vs) (hvs : Tvs w w.heap.size vs ls) (hl : ls.length ≤ 9223372036854775807) :
    Calls Try.prog 9 #[.slice A ls.length c] w fun e w' => e = .returned (.bool (smallB ls)) ∧ w = w' := by
  have hlen := hvs.len
  by_cases hbig : 20 < ls.length
  · have HV : Hid (smallB ls = false) := by
      show smallB ls = _
      rw [smallB, decide_eq_false (by omega)]
      rfl
    go_enter Try.func9, Try.ntmps9
    go_wp2_with fail
    go_ret
    rw [HV.out]
    exact ⟨rfl, rfl⟩
  · go_enter Try.func9, Try.ntmps9
    go_wp2_with fail
    go_loopg [4, 10] ls.length (fun m t i wx => ∃ k : Nat, m = ls.length - k ∧ k ≤ ls.length ∧ i = .int .i64 (k : Int) ∧ Hid (∀ q (h : q < ls.length), q < k → ls[q].length ≤ 100) ∧ wx = w)
    case atStart => exact ⟨0, by omega, by omega, rfl, Lib.hid (fun q _ h => by omega), rfl⟩
    case round =>
      obtain ⟨k, rfl, hk, rfl, HQ, rfl⟩ := hrel
      by_cases hlt : k < ls.length
      · obtain ⟨b, off, rfl, _, _, hcell⟩ := hrd.at (k := k) (by omega)
        obtain ⟨At, ct, hv, hc1, hc2, hrt⟩ := (hvs.each k (by omega) hlt).ex
        rw [hv] at hcell
        have HS : Hid (100 < ls[k].length → smallB ls = false) := Lib.hid (fun h => by
          cases hb : smallB ls with
          | false => rfl
          | true => have := smallB_each ls hb k hlt; omega)
        have HE : Hid (ls[k]? = some ls[k]) := Lib.hid (List.getElem?_eq_getElem hlt)
        clear hv hrt
        generalize ls[k] = t at *
        by_cases ht : 100 < t.length
        · go_wp2_with fail
          go_ret
          rw [HS.out ht]
          exact ⟨rfl, rfl⟩
        · go_wp2_with fail
          go_roundg (ls.length - (k + 1))
          case measure => omega
          case rel =>
            refine ⟨k + 1, rfl, by omega, by go_num, Lib.hid (fun q h hq => ?_), rfl⟩
            rcases Nat.lt_or_ge q k with h2 | h2
            · exact HQ.out q h h2
            · obtain rfl : q = k := by omega
              have := HE.out
              rw [List.getElem?_eq_getElem h] at this
              injection this with this
              rw [this]
              omega
      · obtain rfl : k = ls.length := by omega
        have HV : Hid (smallB ls = true) := Lib.hid (by
          simp only [smallB, Bool.and_eq_true, decide_eq_true_eq, List.all_eq_true]
          refine ⟨by omega, fun x hx => ?_⟩
          obtain ⟨q, hq, rfl⟩ := List.getElem_of_mem hx
          exact HQ.out q hq hq)
        go_wp2_with fail
        go_ret
        rw [HV.out]
        exact ⟨rfl, rfl⟩

set_option maxRecDepth 20000 in
set_option maxHeartbeats 1000000 in
theorem texts_any (A : Option Addr) (c : Nat) (vs : List Value) (ls : List (List UInt8)) (w : World) (hrd : Rd w w.heap.size A vs) (hvs : Tvs w w.heap.size vs ls) (hl : ls.length ≤ 1073741824) :
    Calls Try.prog 13 #[.slice A ls.length c] w fun e w' => ∃ A' c', e = .returned (.slice A' ls.length c') ∧ w'.ownsRow w.heap.size 9 1 (.slice A' ls.length c') ls.length (strs ls) ∧ Below w.heap.size w w' := by
  have hlen := hvs.len
  go_enter Try.func13, Try.ntmps13
  go_wp2_with fail
  go_loopg [3, 8] ls.length (fun m out i wx => ∃ (k : Nat) (A' : Option Addr) (c' : Nat), m = ls.length - k ∧ k ≤ ls.length ∧ i = .int .i64 (k : Int) ∧ out = .slice A' k c' ∧ wx.ownsRow w.heap.size 9 1 (.slice A' k c') k (strs (ls.take k)) ∧ Below w.heap.size w wx)
  case atStart => exact ⟨0, none, 0, by omega, by omega, rfl, rfl, by simpa [strs] using World.ownsRow_nil _ _ _ _, Below.refl _ _⟩
  case round =>
    obtain ⟨k, A', c', rfl, hk, rfl, rfl, hown, hbl⟩ := hrel
    by_cases hlt : k < ls.length
    · obtain ⟨b, off, rfl, _, _, hcell⟩ := (hrd.below hbl).at (k := k) (by omega)
      obtain ⟨At, ct, hv, hc1, hc2, hrt⟩ := (hvs.each k (by omega) hlt).ex
      rw [hv] at hcell
      have HT : Hid (strs (ls.take (k + 1)) = strs (ls.take k) ++ [.string (tx ls[k])]) := Lib.hid (by rw [take_snoc ls k hlt, strs_append]; rfl)
      clear hv
      generalize ls[k] = t at *
      have hcv := run_back (P := Try.prog) 27 9 5 (c := ct) Try.underlying27 Try.underlying5 Try.underlying9 (hrt.below hbl)
      have hownA : (wr.alloc (.cells #[.string (tx t)] 9)).ownsRow w.heap.size 9 1 (.slice A' k c') k (strs (ls.take k)) := own_up hown (by (repeat' (first | (with_reducible exact Below.refl _ _) | (with_reducible assumption) | (with_reducible refine Below.alloc ?_ ?_ _) | (with_reducible refine Below.drew ?_) | (with_reducible refine below_drewN ?_ _) | (with_reducible refine Below.setCell ?_ ?_ _) | (first | (with_reducible exact Nat.le_refl _) | (with_reducible assumption) | omega | (simp; omega) | (simp; done)))))
      have hs := hbl.size
      go_wp2_with (at_builtin; refine wpList_app el_str rfl (.tmp 12) (.tmp 15) rfl rfl hownA rfl (rd_one wr 9 _) (m := 1) (by simp) (one_str _) (by unfold maxLen; omega) (by omega) (by simp; omega) ?_; intro A3 c3 w3 hown3 hg3 hat3)
      go_roundg (ls.length - (k + 1))
      case measure => omega
      case rel =>
        refine ⟨k + 1, A3, c3, rfl, by omega, by go_num, rfl, ?_, ?_⟩
        · rw [HT.out]; exact hown3
        · exact (hbl.alloc hbl.size _).trans (grown_below hownA hg3 (by omega) (by simp; omega))
    · obtain rfl : k = ls.length := by omega
      rw [List.take_length] at hown
      go_wp2_with fail
      go_ret
      exact ⟨A', c', rfl, hown, hbl⟩

set_option maxRecDepth 20000 in
set_option maxHeartbeats 1000000 in
theorem number13_any (k0 k1 : Int) (t : List UInt8) (n : Nat) (x : Int) (w : World) (hx : x = (n : Int)) (hn : n ≤ 1073741824) (ht : t.length ≤ 65536) :
    Calls Try.prog 45 #[.agg #[.int .u64 k0, .int .u64 k1], .string (tx t), .int .i64 x] w fun e w' => e = .returned (.int .u64 (itemN k0 k1 (784931 * n) t : Nat)) ∧ Below w.heap.size w w' := by
  subst hx
  have HE := Lib.hid (itemN_eq k0 k1 (784931 * n) t)
  have hin := sipHash_in k0 k1 t
  go_enter Try.func45, Try.ntmps45
  go_wp2_with (refine wpList_bytes 9 27 5 rfl (.tmp 11) rfl Try.underlying9 Try.underlying27 Try.underlying5 (l := t) rfl ?_; intro A1 c1 w1 hc1 hrd1 hb1)
  have hb1' : Below w.heap.size w w1 := Below.trans (by (repeat' (first | (with_reducible exact Below.refl _ _) | (with_reducible assumption) | (with_reducible refine Below.alloc ?_ ?_ _) | (with_reducible refine Below.drew ?_) | (with_reducible refine below_drewN ?_ _) | (with_reducible refine Below.setCell ?_ ?_ _) | (first | (with_reducible exact Nat.le_refl _) | (with_reducible assumption) | omega | (simp; omega) | (simp; done))))) (hb1.mono (by simp))
  refine (refHash_any k0 k1 A1 c1 t w1 hrd1 ht).mono ?_
  rintro e w2 ⟨rfl, hb2⟩
  have hbl2 := hb1'.trans (hb2.mono hb1'.size)
  clear hb1 hrd1
  generalize sipHash k0 k1 t = hx at *
  go_wp2_with fail
  refine (refRange_any hx (n * 784931) w2 hin.1 hin.2 (by omega) (by omega)).mono ?_
  rintro e w3 ⟨rfl, hb3⟩
  go_wp2_with fail
  go_ret
  refine ⟨ret_eq (int_eq ?_), hbl2.trans (hb3.mono hbl2.size)⟩
  rw [← HE.out]
  congr 2
  omega
set_option maxRecDepth 20000 in
set_option maxHeartbeats 2000000 in
theorem any13_any (k0 k1 : Int) (A1 A2 : Option Addr) (c1 c2 : Nat) (ns : List Nat) (ls : List (List UInt8)) (w : World) (hrn : Rd w w.heap.size A1 (vnat ns)) (hrs : Rd w w.heap.size A2 (strs ls)) (hn : ns.length ≤ 1073741824) (hl : ls.length ≤ 1073741824)
    (hts : ∀ t ∈ ls, t.length ≤ 65536) :
    Calls Try.prog 18 #[.agg #[.int .u64 k0, .int .u64 k1], .slice A1 ns.length c1, .slice A2 ls.length c2] w fun e w' => ∃ A' c', e = .returned (.slice A' (anyTo k0 k1 ns ls ls.length).length c') ∧
      w'.ownsRow w.heap.size 3 1 (.slice A' (anyTo k0 k1 ns ls ls.length).length c') (anyTo k0 k1 ns ls ls.length).length (vint (anyTo k0 k1 ns ls ls.length)) ∧ Below w.heap.size w w' := by
  have HTS := Lib.hid hts
  clear hts
  go_enter Try.func18, Try.ntmps18
  go_wp2_with fail
  have hbA : Below w.heap.size w (w.alloc (.cells #[.int .u64 k0, .int .u64 k1] 23)) := by (repeat' (first | (with_reducible exact Below.refl _ _) | (with_reducible assumption) | (with_reducible refine Below.alloc ?_ ?_ _) | (with_reducible refine Below.drew ?_) | (with_reducible refine below_drewN ?_ _) | (with_reducible refine Below.setCell ?_ ?_ _) | (first | (with_reducible exact Nat.le_refl _) | (with_reducible assumption) | omega | (simp; omega) | (simp; done))))
  have hrowA : Row (w.alloc (.cells #[.int .u64 k0, .int .u64 k1] 23)) w.heap.size 23 [.int .u64 k0, .int .u64 k1] := Row.new w _ [.int .u64 k0, .int .u64 k1]
  go_loopg [7, 15] ls.length (fun r out i wx => ∃ (k : Nat) (A' : Option Addr) (c' : Nat), r = ls.length - k ∧ k ≤ ls.length ∧ i = .int .i64 (k : Int) ∧ out = .slice A' (anyTo k0 k1 ns ls k).length c' ∧ Row wx w.heap.size 23 [.int .u64 k0, .int .u64 k1] ∧
    wx.ownsRow (w.heap.size + 1) 3 1 (.slice A' (anyTo k0 k1 ns ls k).length c') (anyTo k0 k1 ns ls k).length (vint (anyTo k0 k1 ns ls k)) ∧ Below w.heap.size w wx)
  case atStart => exact ⟨0, none, 0, by omega, by omega, rfl, by simp [anyTo], hrowA, by simpa [anyTo, vint] using World.ownsRow_nil _ _ _ _, hbA⟩
  case round =>
    obtain ⟨k, A', c', rfl, hk, rfl, rfl, hrow, hown, hbl⟩ := hrel
    have hat := anyTo_length k0 k1 ns ls k
    by_cases hlt : k < ls.length
    · obtain ⟨b, off, rfl, _, _, hcell⟩ := (hrs.below hbl).at (k := k) (by simpa using hlt)
      rw [strs_get _ _ hlt] at hcell
      have HT := Lib.hid (anyTo_succ k0 k1 ns ls k hlt)
      have htl := HTS.out ls[k] (List.getElem_mem hlt)
      generalize anyTo k0 k1 ns ls k = acc at *
      generalize ls[k] = t at *
      have hnum := fun wx => number13_any k0 k1 t ns.length (ns.length : Int) wx rfl hn htl
      generalize itemN k0 k1 (784931 * ns.length) t = y at *
      have HNUM := Lib.hid hnum
      clear hnum
      obtain ⟨wo, hwo⟩ : ∃ wo : World, wo = wr := ⟨_, rfl⟩
      subst hwo
      have hown1 := hown
      go_wp2_with fail
      go_loopg [10, 22] ns.length (fun m th i wx => ∃ j : Nat, m = ns.length - j ∧ j ≤ ns.length ∧ i = .int .i64 (j : Int) ∧ th = .bool (decide (y ∈ ns.take j)) ∧ Row wx w.heap.size 23 [.int .u64 k0, .int .u64 k1] ∧
        wx.ownsRow (w.heap.size + 1) 3 1 (.slice A' acc.length c') acc.length (vint acc) ∧ Below w.heap.size w wx)
      case atStart => exact ⟨0, by omega, by omega, rfl, by simp, hrow, hown1, hbl⟩
      case round =>
        obtain ⟨j, rfl, hj, rfl, rfl, hrow2, hown2, hbl2⟩ := hrel
        clear hrow hown hown1 hcell hbl
        by_cases hjl : j < ns.length
        · obtain ⟨b1, o1, rfl, _, _, hc1⟩ := (hrn.below hbl2).at (k := j) (by simpa using hjl)
          rw [vnat_get _ _ hjl] at hc1
          have HJ : Hid (decide (y ∈ ns.take (j + 1)) = (decide (y ∈ ns.take j) || decide (y = ns[j]))) := Lib.hid (by rw [take_snoc ns j hjl]; simp only [List.mem_append, List.mem_singleton, Bool.decide_or])
          generalize ns[j] = v at *
          have hcr := hrow2.cell
          cases hth : decide (y ∈ ns.take j) with
          | true =>
            rw [hth] at HJ
            clear hth
            go_wp2_with fail
            go_roundg (ns.length - (j + 1))
            case measure => omega
            case rel => exact ⟨j + 1, rfl, by omega, by go_num, by rw [HJ.out]; rfl, hrow2, hown2, hbl2⟩
          | false =>
            rw [hth] at HJ
            clear hth
            go_wp2_with fail
            refine (HNUM.out _).mono ?_
            rintro e w3 ⟨rfl, hb3⟩
            have hrow3 := hrow2.below hb3 hrow2.lt
            have hown3 := own_up hown2 hb3
            have hbl3 := hbl2.trans (hb3.mono hbl2.size)
            clear hrow2 hown2 hbl2 hb3 hcr hc1
            by_cases hvy : v = y
            · subst hvy
              have hbe : ((v : Int) == (v : Int)) = true := by simp
              go_wp2_with fail
              go_roundg (ns.length - (j + 1))
              case measure => omega
              case rel => exact ⟨j + 1, rfl, by omega, by go_num, by rw [HJ.out]; simp, hrow3, hown3, hbl3⟩
            · have hbe : ((v : Int) == (y : Int)) = false := by rw [beq_eq_false_iff_ne]; omega
              have hdv : decide (y = v) = false := decide_eq_false (fun e => hvy e.symm)
              have HJ2 := Lib.hid (HJ.out.trans (by rw [hdv]; rfl : _ = false))
              clear hvy hdv
              go_wp2_with fail
              go_roundg (ns.length - (j + 1))
              case measure => omega
              case rel => exact ⟨j + 1, rfl, by omega, by go_num, by rw [HJ2.out], hrow3, hown3, hbl3⟩
        · obtain rfl : j = ns.length := by omega
          rw [List.take_length]
          by_cases hm : y ∈ ns
          · have HT1 := Lib.hid (HT.out.trans (if_pos hm))
            have hd : decide (y ∈ ns) = true := decide_eq_true hm
            have hownA : (wr.alloc (.cells #[.int .i64 (k : Int)] 3)).ownsRow (w.heap.size + 1) 3 1 (.slice A' acc.length c') acc.length (vint acc) := own_up hown2 (by (repeat' (first | (with_reducible exact Below.refl _ _) | (with_reducible assumption) | (with_reducible refine Below.alloc ?_ ?_ _) | (with_reducible refine Below.drew ?_) | (with_reducible refine below_drewN ?_ _) | (with_reducible refine Below.setCell ?_ ?_ _) | (first | (with_reducible exact Nat.le_refl _) | (with_reducible assumption) | omega | (simp; omega) | (simp; done)))))
            have hl2 := hrow2.lt
            have hs2 := hbl2.size
            clear hm
            rw [hd]
            go_wp2_with (at_builtin; refine wpList_app el_int rfl (.tmp 38) (.tmp 40) rfl rfl hownA rfl (rd_one wr 3 _) (m := 1) (by simp) (one_int _ _) (by unfold maxLen; omega) (by omega) (by simp; omega) ?_; intro A3 c3 w3 hown3 hg3 hat3)
            go_roundg (ls.length - (k + 1))
            case measure => omega
            case rel =>
              refine ⟨k + 1, A3, c3, rfl, by omega, by go_num, ?_, (hrow2.alloc _).grown hg3 (fun e => by have := (hownA.lt _ e.symm).1; omega), ?_, ?_⟩
              · rw [HT1.out]; exact slice_eq (by simp)
              · rw [HT1.out, List.length_append, List.length_singleton, vint_append]; exact hown3
              · exact (hbl2.alloc hbl2.size _).trans (grown_below hownA hg3 (by omega) (by simp; omega))
          · have HT1 := Lib.hid (HT.out.trans (if_neg hm))
            have hd : decide (y ∈ ns) = false := decide_eq_false hm
            clear hm
            rw [hd]
            go_wp2_with fail
            go_roundg (ls.length - (k + 1))
            case measure => omega
            case rel => exact ⟨k + 1, A', c', rfl, by omega, by go_num, by rw [HT1.out], hrow2, by rw [HT1.out]; exact hown2, hbl2⟩
    · obtain rfl : k = ls.length := by omega
      go_wp2_with fail
      go_ret
      exact ⟨A', c', rfl, own_base hown (by omega), hbl⟩
end Go.Proofs.Ythaceagaodjllaa
