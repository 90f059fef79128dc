/- The binary search over numbers that rise; gcs.Any, gcs.Match. Bytes up to 2^36, lists of up to 2^30. -/
import Derived.Test.YthaceagaodjllaaBuild
namespace Go.Proofs.Ythaceagaodjllaa
open Go.RowKit

theorem nan_any (x : Int) (w : World) : Calls Try.prog 85 #[.int .u64 x] w fun e w' => e = .returned (.bool false) ∧ w = w' := by
  have hx : (x != x) = false := by simp
  go_enter Try.func85, Try.ntmps85
  go_wp2_with fail
  go_ret
  exact ⟨rfl, rfl⟩
theorem nan_any_s (x : Int) (w : World) : Calls Try.prog 72 #[.int .u64 x] w fun e w' => e = .returned (.bool false) ∧ w = w' := by
  have hx : (x != x) = false := by simp
  go_enter Try.func72, Try.ntmps72
  go_wp2_with fail
  go_ret
  exact ⟨rfl, rfl⟩
theorem less_any (x y : Int) (w : World) : Calls Try.prog 71 #[.int .u64 x, .int .u64 y] w fun e w' => e = .returned (.bool (decide (x < y))) ∧ w = w' := by
  go_enter Try.func71, Try.ntmps71
  go_wp2_with (go_at_call 85; refine (nan_any _ _).mono ?_; rintro e w' ⟨rfl, rfl⟩)
  go_ret
  exact ⟨rfl, rfl⟩

/-- Where the binary search over l for t ends. -/
theorem bsearch_any (A : Option Addr) (c : Nat) (l : List Nat) (t : Nat) (x : Int) (w : World) (hx : x = (t : Int)) (hrd : Rd w w.heap.size A (vnat l)) (hl : l.length ≤ 1073741824) (hs : l.Pairwise (fun x y => x ≤ y)) :
    Calls Try.prog 44 #[.slice A l.length c, .int .u64 x] w fun e w' => ∃ n : Int, e = .returned (.tuple #[.int .i64 n, .bool (decide (t ∈ l))]) ∧ w = w' := by
  subst hx
  have hs' : ∀ i j (hi : i < l.length) (hj : j < l.length), i ≤ j → l[i] ≤ l[j] := fun i j hi hj hij => by
    rcases Nat.lt_or_ge i j with h | h
    · exact List.pairwise_iff_getElem.1 hs i j hi hj h
    · obtain rfl : i = j := by omega
      exact Nat.le_refl _
  have HS := Lib.hid hs'
  clear hs hs'
  go_enter Try.func44, Try.ntmps44
  go_wp2_with fail
  go_loopg [7, 8] l.length (fun m i j wx => ∃ (a b : Nat), m = b - a ∧ a ≤ b ∧ b ≤ l.length ∧ i = .int .i64 (a : Int) ∧ j = .int .i64 (b : Int) ∧ Hid (∀ q (h : q < l.length), (q < a → l[q] < t) ∧ (b ≤ q → t ≤ l[q])) ∧ wx = w)
  case atStart => exact ⟨0, l.length, by omega, by omega, by omega, rfl, rfl, Lib.hid (fun q h => ⟨by omega, by omega⟩), rfl⟩
  case round =>
    obtain ⟨a, b, rfl, hab, hb, rfl, rfl, HR, rfl⟩ := hrel
    by_cases hlt : a < b
    · have hm1 : (a + b) / 2 < l.length := by omega
      obtain ⟨bl, off, rfl, _, _, hcell⟩ := hrd.at (k := (a + b) / 2) (by simpa using hm1)
      rw [vnat_get _ _ hm1] at hcell
      have HM : Hid (l[(a + b) / 2]? = some l[(a + b) / 2]) := Lib.hid (List.getElem?_eq_getElem hm1)
      have HN : Hid (∀ q (h : q < l.length), (q ≤ (a + b) / 2 → l[q] ≤ l[(a + b) / 2]) ∧ ((a + b) / 2 ≤ q → l[(a + b) / 2] ≤ l[q])) := Lib.hid (fun q h => ⟨HS.out q _ h hm1, HS.out _ q hm1 h⟩)
      have hab2 : a ≤ (a + b) / 2 ∧ (a + b) / 2 < b := by omega
      generalize l[(a + b) / 2] = v at *
      go_wp2_with fail
      refine (less_any _ _ _).mono ?_
      rintro e _ ⟨rfl, rfl⟩
      by_cases hvt : v < t
      · have hb1 : decide (v < t) = true := by rw [decide_eq_true_eq]; exact hvt
        have hb2 : decide ((v : Int) < (t : Int)) = true := by rw [decide_eq_true_eq]; omega
        clear hvt
        go_wp2_with fail
        go_roundg (b - ((a + b) / 2 + 1))
        case measure => omega
        case rel =>
          refine ⟨(a + b) / 2 + 1, b, rfl, by omega, hb, int_eq (by omega), rfl, Lib.hid (fun q h => ⟨fun hq => ?_, (HR.out q h).2⟩), rfl⟩
          have := (HN.out q h).1 (by omega)
          rw [decide_eq_true_eq] at hb1
          omega
      · have hb1 : decide (v < t) = false := by rw [decide_eq_false_iff_not]; exact hvt
        have hb2 : decide ((v : Int) < (t : Int)) = false := by rw [decide_eq_false_iff_not]; omega
        clear hvt
        go_wp2_with fail
        go_roundg ((a + b) / 2 - a)
        case measure => omega
        case rel =>
          refine ⟨a, (a + b) / 2, rfl, by omega, by omega, rfl, int_eq (by omega), Lib.hid (fun q h => ⟨(HR.out q h).1, fun hq => ?_⟩), rfl⟩
          have := (HN.out q h).2 (by omega)
          rw [decide_eq_false_iff_not] at hb1
          omega
    · obtain rfl : a = b := by omega
      have hmem : t ∈ l ↔ l[a]? = some t := by
        rw [List.mem_iff_getElem]
        constructor
        · rintro ⟨q, hq, rfl⟩
          have h1 := HR.out q hq
          have hqa : a ≤ q := by
            rcases Nat.lt_or_ge q a with h | h
            · have := h1.1 h; omega
            · exact h
          have h2 := (HR.out a (by omega)).2 (Nat.le_refl _)
          have h3 := HS.out a q (by omega) hq hqa
          rw [List.getElem?_eq_getElem (by omega)]
          congr 1
          omega
        · intro h
          obtain ⟨h1, h2⟩ := List.getElem?_eq_some_iff.1 h
          exact ⟨a, h1, h2⟩
      have HMEM := Lib.hid hmem
      clear hmem
      by_cases hal : a < l.length
      · obtain ⟨bl, off, rfl, _, _, hcell⟩ := hrd.at (k := a) (by simpa using hal)
        rw [vnat_get _ _ hal] at hcell
        have HV : Hid (l[a]? = some l[a]) := Lib.hid (List.getElem?_eq_getElem hal)
        generalize l[a] = v at *
        by_cases hvt : v = t
        · subst hvt
          have HD : Hid (decide (v ∈ l) = true) := Lib.hid (decide_eq_true (HMEM.out.2 HV.out))
          have hbe : ((v : Int) == (v : Int)) = true := by simp
          go_wp2_with fail
          go_ret2
          rw [HD.out]
          exact ⟨_, rfl, rfl⟩
        · have HD : Hid (decide (t ∈ l) = false) := Lib.hid (decide_eq_false (fun h => hvt (by have := HMEM.out.1 h; rw [HV.out] at this; injection this)))
          have hbe : ((v : Int) == (t : Int)) = false := by rw [beq_eq_false_iff_ne]; omega
          clear hvt
          go_wp2_with (first
            | (go_at_call 72; refine (nan_any_s _ _).mono ?_; rintro e w' ⟨rfl, rfl⟩))
          go_ret2
          rw [HD.out]
          exact ⟨_, rfl, rfl⟩
      · have HD : Hid (decide (t ∈ l) = false) := Lib.hid (decide_eq_false (fun h => by
          have := HMEM.out.1 h
          rw [List.getElem?_eq_none (by omega)] at this
          cases this))
        have hda : decide ((a : Int) < (l.length : Int)) = false := by rw [decide_eq_false_iff_not]; omega
        have hdb : decide (a < l.length) = false := by rw [decide_eq_false_iff_not]; omega
        go_wp2_with fail
        go_ret2
        rw [HD.out]
        exact ⟨_, rfl, rfl⟩
theorem vGo_sorted (rest : List UInt8) (n k at_ last : Nat) (acc : List Nat) (h : acc.Pairwise (fun x y => x ≤ y)) (h2 : ∀ x ∈ acc, x ≤ last) : (vGo rest n k at_ last acc).1.Pairwise (fun x y => x ≤ y) := by
  induction k generalizing at_ last acc with
  | zero => exact h
  | succ k ih =>
    rw [vGo]
    split
    · exact List.Pairwise.nil
    · split
      · exact List.Pairwise.nil
      · refine ih _ _ _ ?_ ?_
        · rw [List.pairwise_append]
          exact ⟨h, List.pairwise_singleton _ _, fun x hx y hy => by simp at hy; have := h2 x hx; omega⟩
        · intro x hx
          rw [List.mem_append, List.mem_singleton] at hx
          rcases hx with hx | hx
          · have := h2 x hx; omega
          · omega
theorem vGo_length (rest : List UInt8) (n k at_ last : Nat) (acc : List Nat) : (vGo rest n k at_ last acc).1.length ≤ acc.length + k := by
  induction k generalizing at_ last acc with
  | zero => exact Nat.le_refl _
  | succ k ih =>
    rw [vGo]
    split
    · simp
    · split
      · simp
      · have := ih (bGet rest at_).2.1 (last + (bGet rest at_).1) (acc ++ [last + (bGet rest at_).1])
        simp at this
        omega
theorem vals_sorted (l : List UInt8) : (vals l).1.Pairwise (fun x y => x ≤ y) := by
  unfold vals
  split
  · exact List.Pairwise.nil
  · unfold vEnd
    split
    · exact List.Pairwise.nil
    · split
      · exact List.Pairwise.nil
      · exact vGo_sorted _ _ _ _ _ _ List.Pairwise.nil (by simp)
theorem vals_length (l : List UInt8) : (vals l).1.length ≤ 1000 := by
  have h := rVar_le l 0 0 1000
  unfold vals
  split
  · simp
  · unfold vEnd
    split
    · simp
    · split
      · simp
      · have := vGo_length (vRest l) (rVar l 0 0 1000).1 (rVar l 0 0 1000).1 0 0 []
        simp at this
        simp only
        omega
theorem vals_err (l : List UInt8) : (vals l).2 ≠ 0 → (vals l).1 = [] := by
  unfold vals
  split
  · intro _; rfl
  · unfold vEnd
    split
    · intro _; rfl
    · split
      · intro _; rfl
      · intro h; exact absurd rfl h

/-- Which of the first k items are matched by numbers. -/
def anyTo (k0 k1 : Int) (ns : List Nat) (ls : List (List UInt8)) (k : Nat) : List Nat := (List.range k).filter fun i => decide (itemN k0 k1 (784931 * ns.length) (ls.getD i []) ∈ ns)
theorem anyTo_succ (k0 k1 : Int) (ns : List Nat) (ls : List (List UInt8)) (k : Nat) (h : k < ls.length) :
    anyTo k0 k1 ns ls (k + 1) = if itemN k0 k1 (784931 * ns.length) ls[k] ∈ ns then anyTo k0 k1 ns ls k ++ [k] else anyTo k0 k1 ns ls k := by
  unfold anyTo
  rw [List.range_succ, List.filter_append, List.filter_cons, List.filter_nil]
  have e : ls.getD k [] = ls[k] := by simp [List.getD, h]
  rw [e]
  by_cases hm : itemN k0 k1 (784931 * ns.length) ls[k] ∈ ns
  · rw [if_pos hm, if_pos (by simpa using hm)]
  · rw [if_neg hm, if_neg (by simpa using hm), List.append_nil]
theorem anyTo_length (k0 k1 : Int) (ns : List Nat) (ls : List (List UInt8)) (k : Nat) : (anyTo k0 k1 ns ls k).length ≤ k := by
  have := List.length_filter_le (fun i => decide (itemN k0 k1 (784931 * ns.length) (ls.getD i []) ∈ ns)) (List.range k)
  simpa [anyTo] using this
def vint (l : List Nat) : List Value := l.map fun (n : Nat) => .int .i64 (n : Int)
@[simp] theorem vint_length (l : List Nat) : (vint l).length = l.length := by simp [vint]
theorem vint_append (l r : List Nat) : vint (l ++ r) = vint l ++ vint r := by simp [vint]
theorem vint_get (l : List Nat) (k : Nat) (h : k < l.length) : (vint l)[k]'(by simpa using h) = .int .i64 (l[k] : Int) := by simp [vint]
def anyL (k0 k1 : Int) (b : List UInt8) (ls : List (List UInt8)) : List Nat × Nat := if (vals b).2 ≠ 0 then ([], (vals b).2) else (anyTo k0 k1 (vals b).1 ls ls.length, 0)

set_option maxRecDepth 20000 in
set_option maxHeartbeats 1000000 in
theorem any_any (k0 k1 : Int) (A A2 : Option Addr) (c c2 : Nat) (bs : List UInt8) (vs : List Value) (ls : List (List UInt8)) (w : World) (hrb : Rd w w.heap.size A (u8s bs)) (hbs : bs.length ≤ 68719476736)
    (hrd : Rd w w.heap.size A2 vs) (hvs : Tvs w w.heap.size vs ls) (hl : ls.length ≤ 1073741824) :
    Calls Try.prog 17 #[.agg #[.int .u64 k0, .int .u64 k1], .slice A bs.length c, .slice A2 ls.length c2] w fun e w' => ∃ A' c', e = .returned (.tuple #[.slice A' (anyL k0 k1 bs ls).1.length c', .int .i64 ((anyL k0 k1 bs ls).2 : Int)]) ∧
      w'.ownsRow w.heap.size 3 1 (.slice A' (anyL k0 k1 bs ls).1.length c') (anyL k0 k1 bs ls).1.length (vint (anyL k0 k1 bs ls).1) ∧ Below w.heap.size w w' := by
  have hlen := hvs.len
  go_enter Try.func17, Try.ntmps17
  go_wp2_with fail
  have hbA : Below w.heap.size w (w.alloc (.cells #[.int .u64 k0, .int .u64 k1] 23)) := by (repeat' (first | (with_reducible exact Below.refl _ _) | (with_reducible assumption) | (with_reducible refine Below.alloc ?_ ?_ _) | (with_reducible refine Below.drew ?_) | (with_reducible refine below_drewN ?_ _) | (with_reducible refine Below.setCell ?_ ?_ _) | (first | (with_reducible exact Nat.le_refl _) | (with_reducible assumption) | omega | (simp; omega) | (simp; done))))
  have hrowA : Row (w.alloc (.cells #[.int .u64 k0, .int .u64 k1] 23)) w.heap.size 23 [.int .u64 k0, .int .u64 k1] := Row.new w _ [.int .u64 k0, .int .u64 k1]
  refine (values_any A c bs _ ((hrb.below hbA).more (by simp)) hbs).mono ?_
  rintro e w1 ⟨A1, c1, rfl, hown1, hb1⟩
  have hrow1 := hrowA.below hb1 hrowA.lt
  have hbl1 := hbA.trans (hb1.mono hbA.size)
  have hown1' := own_base (base' := w.heap.size + 1) hown1 (by simp)
  have HV : Hid (anyL k0 k1 bs ls = if (vals bs).2 ≠ 0 then ([], (vals bs).2) else (anyTo k0 k1 (vals bs).1 ls ls.length, 0)) := rfl
  have hvl := vals_length bs
  have hvso := vals_sorted bs
  clear hrowA hbA hb1 hown1
  rcases hv : vals bs with ⟨ns, e1⟩
  rw [hv] at HV hvl hvso hown1'
  clear hv
  simp only at HV hvl hvso hown1' ⊢
  by_cases he : e1 = 0
  · subst he
    have HV1 : Hid (anyL k0 k1 bs ls = (anyTo k0 k1 ns ls ls.length, 0)) := by
      show anyL k0 k1 bs ls = _
      rw [HV.out]
      exact if_neg (by simp)
    have HSO := Lib.hid hvso
    clear hvso
    go_wp2_with fail
    go_loopg [10, 26] ls.length (fun r out i wx => ∃ (k : Nat) (A' : Option Addr) (c' : Nat), r = ls.length - k ∧ k ≤ ls.length ∧ i = .int .i64 (k : Int) ∧ out = .slice A' (anyTo k0 k1 ns ls k).length c' ∧ Row wx w.heap.size 23 [.int .u64 k0, .int .u64 k1] ∧
      wx.ownsRow (w.heap.size + 1) 22 1 (.slice A1 ns.length c1) ns.length (vnat ns) ∧
      wx.ownsRow (w.heap.size + 1) 3 1 (.slice A' (anyTo k0 k1 ns ls k).length c') (anyTo k0 k1 ns ls k).length (vint (anyTo k0 k1 ns ls k)) ∧ Below w.heap.size w wx)
    case atStart => exact ⟨0, none, 0, by omega, by omega, rfl, by simp [anyTo], hrow1, hown1', by simpa [anyTo, vint] using World.ownsRow_nil _ _ _ _, hbl1⟩
    case round =>
      obtain ⟨k, A', c', rfl, hk, rfl, rfl, hrow, hownv, hown, hbl⟩ := hrel
      have hat := anyTo_length k0 k1 ns ls k
      by_cases hlt : k < ls.length
      · obtain ⟨b, off, rfl, _, _, hcell⟩ := (hrd.below hbl).at (k := k) (by omega)
        have htv := (hvs.each k (by omega) hlt).below hbl
        have HT := Lib.hid (anyTo_succ k0 k1 ns ls k hlt)
        generalize anyTo k0 k1 ns ls k = acc at *
        have he := itemN_eq k0 k1 (784931 * ns.length) ls[k]
        have hle := (itemN_le k0 k1 (784931 * ns.length) ls[k]).1
        generalize ls[k] = t at *
        obtain ⟨At, ct, hv, hc1, hc2, hrt⟩ := htv.ex
        rw [hv] at hcell
        have hcr := hrow.cell
        have hhash := hash_any k0 k1 At ct t wr (hrt.more hbl.size) hc1 (by omega)
        have hin := sipHash_in k0 k1 t
        generalize sipHash k0 k1 t = hx at *
        generalize itemN k0 k1 (784931 * ns.length) t = y at *
        have HE := Lib.hid he
        have HH := Lib.hid hhash
        have hbs' := hbl.size
        clear hv he hhash
        go_wp2_with fail
        refine HH.out.mono ?_
        rintro e w2 ⟨rfl, hb2⟩
        have hown2 := own_up hown hb2
        have hownv2 := own_up hownv hb2
        have hrow2 := hrow.below hb2 hrow.lt
        have hbl2 := hbl.trans (hb2.mono hbl.size)
        clear hown hownv hrow hbl hb2 hcr
        go_wp2_with fail
        refine (range_any hx (784931 * (ns.length : Int)) _ hin.1 hin.2 (by omega) (by omega)).mono ?_
        rintro e _ ⟨rfl, rfl⟩
        rw [show (784931 * (ns.length : Int)) = ((784931 * ns.length : Nat) : Int) by omega, HE.out]
        go_wp2_with fail
        refine (bsearch_any A1 c1 ns y _ w2 rfl (own_rd hownv2) (by omega) HSO.out).mono ?_
        rintro e _ ⟨nn, rfl, rfl⟩
        by_cases hm : y ∈ ns
        · have HT1 := Lib.hid (HT.out.trans (if_pos hm))
          have hd : decide (y ∈ ns) = true := decide_eq_true hm
          have hownA : (w2.alloc (.cells #[.int .i64 (k : Int)] 3)).ownsRow (w.heap.size + 1) 3 1 (.slice A' acc.length c') acc.length (vint acc) := own_up hown2 (by (repeat' (first | (with_reducible exact Below.refl _ _) | (with_reducible assumption) | (with_reducible refine Below.alloc ?_ ?_ _) | (with_reducible refine Below.drew ?_) | (with_reducible refine below_drewN ?_ _) | (with_reducible refine Below.setCell ?_ ?_ _) | (first | (with_reducible exact Nat.le_refl _) | (with_reducible assumption) | omega | (simp; omega) | (simp; done)))))
          have hownvA : (w2.alloc (.cells #[.int .i64 (k : Int)] 3)).ownsRow (w.heap.size + 1) 22 1 (.slice A1 ns.length c1) ns.length (vnat ns) := own_up hownv2 (by (repeat' (first | (with_reducible exact Below.refl _ _) | (with_reducible assumption) | (with_reducible refine Below.alloc ?_ ?_ _) | (with_reducible refine Below.drew ?_) | (with_reducible refine below_drewN ?_ _) | (with_reducible refine Below.setCell ?_ ?_ _) | (first | (with_reducible exact Nat.le_refl _) | (with_reducible assumption) | omega | (simp; omega) | (simp; done)))))
          have hl2 := hrow2.lt
          have hs2 := hbl2.size
          clear hm
          go_wp2_with (at_builtin; refine wpList_app el_int rfl (.tmp 46) (.tmp 48) rfl rfl hownA rfl (rd_one w2 3 _) (m := 1) (by simp) (one_int _ _) (by unfold maxLen; omega) (by omega) (by simp; omega) ?_; intro A3 c3 w3 hown3 hg3 hat3)
          go_roundg (ls.length - (k + 1))
          case measure => omega
          case rel =>
            refine ⟨k + 1, A3, c3, rfl, by omega, by go_num, ?_, (hrow2.alloc _).grown hg3 (fun e => by have := (hownA.lt _ e.symm).1; omega), hownvA.kept hg3 (own_own_ne hownvA hownA (by decide)), ?_, ?_⟩
            · rw [HT1.out]; exact slice_eq (by simp)
            · rw [HT1.out, List.length_append, List.length_singleton, vint_append]; exact hown3
            · exact (hbl2.alloc hbl2.size _).trans (grown_below hownA hg3 (by omega) (by simp; omega))
        · have HT1 := Lib.hid (HT.out.trans (if_neg hm))
          have hd : decide (y ∈ ns) = false := decide_eq_false hm
          clear hm
          go_wp2_with fail
          go_roundg (ls.length - (k + 1))
          case measure => omega
          case rel => exact ⟨k + 1, A', c', rfl, by omega, by go_num, by rw [HT1.out], hrow2, hownv2, by rw [HT1.out]; exact hown2, hbl2⟩
      · obtain rfl : k = ls.length := by omega
        go_wp2_with fail
        go_ret2
        rw [HV1.out]
        exact ⟨A', c', rfl, own_base hown (by omega), hbl⟩
  · have he' : ((e1 : Int) != 0) = true := by rw [bne_iff_ne]; omega
    have HV1 : Hid (anyL k0 k1 bs ls = ([], e1)) := by
      show anyL k0 k1 bs ls = _
      rw [HV.out]
      exact if_pos he
    clear hown1'
    go_wp2_with fail
    go_ret2
    rw [HV1.out]
    exact ⟨none, 0, rfl, World.ownsRow_nil _ _ _ _, hbl1⟩
/-- Whether an item is matched. -/
def matchL (k0 k1 : Int) (b t : List UInt8) : Bool × Nat := (decide (0 < (anyL k0 k1 b [t]).1.length), (anyL k0 k1 b [t]).2)

set_option maxRecDepth 20000 in
set_option maxHeartbeats 1000000 in
theorem match_any (k0 k1 : Int) (A : Option Addr) (c : Nat) (v : Value) (bs t : List UInt8) (w : World) (hrb : Rd w w.heap.size A (u8s bs)) (hbs : bs.length ≤ 68719476736) (ht : Txv w w.heap.size v t) :
    Calls Try.prog 16 #[.agg #[.int .u64 k0, .int .u64 k1], .slice A bs.length c, v] w fun e w' => e = .returned (.tuple #[.bool (matchL k0 k1 bs t).1, .int .i64 ((matchL k0 k1 bs t).2 : Int)]) ∧ Below w.heap.size w w' := by
  obtain ⟨Av, cv, hv, _⟩ := ht.ex
  subst hv
  go_enter Try.func16, Try.ntmps16
  go_wp2_with fail
  have hbA : Below w.heap.size w ((w.alloc (.cells #[.int .u64 k0, .int .u64 k1] 23)).alloc (.cells #[.slice Av t.length cv] 27)) := by (repeat' (first | (with_reducible exact Below.refl _ _) | (with_reducible assumption) | (with_reducible refine Below.alloc ?_ ?_ _) | (with_reducible refine Below.drew ?_) | (with_reducible refine below_drewN ?_ _) | (with_reducible refine Below.setCell ?_ ?_ _) | (first | (with_reducible exact Nat.le_refl _) | (with_reducible assumption) | omega | (simp; omega) | (simp; done))))
  have hrowA : Row ((w.alloc (.cells #[.int .u64 k0, .int .u64 k1] 23)).alloc (.cells #[.slice Av t.length cv] 27)) (w.heap.size + 1) 27 [.slice Av t.length cv] := Row.new_eq (cs := [.slice Av t.length cv]) (by simp)
  have hrd := Rd.row hrowA
  have hsz : ((w.alloc (.cells #[.int .u64 k0, .int .u64 k1] 23)).alloc (.cells #[.slice Av t.length cv] 27)).heap.size = w.heap.size + 2 := by simp
  refine (any_any k0 k1 A (some ⟨w.heap.size + 1, 0, none⟩) c 1 bs [.slice Av t.length cv] [t] _ ((hrb.below hbA).more (by simp; omega)) hbs hrd (Tvs.snoc (Tvs.nil _ _) ((ht.below hbA).more (by simp; omega))) (by simp)).mono ?_
  rintro e w1 ⟨A1, c1, rfl, hown1, hb1⟩
  have hbl1 := hbA.trans (hb1.mono hbA.size)
  have HM : Hid (matchL k0 k1 bs t = (decide (0 < (anyL k0 k1 bs [t]).1.length), (anyL k0 k1 bs [t]).2)) := rfl
  clear hown1 hb1 hrd hrowA hbA hsz
  generalize (anyL k0 k1 bs [t]).1.length = n at *
  generalize (anyL k0 k1 bs [t]).2 = e1 at *
  go_wp2_with fail
  go_ret2
  rw [HM.out]
  exact ⟨rfl, hbl1⟩

theorem ins_short (A : Option Addr) (c n : Nat) (k : Int) (w : World) (hk : k = (n : Int)) (hn : n ≤ 1) :
    Calls Try.prog 89 #[.slice A n c, .int .i64 0, .int .i64 k] w fun e w' => e = .returned (.tuple #[]) ∧ w = w' := by
  subst hk
  have hd : decide (1 < n) = false := by rw [decide_eq_false_iff_not]; omega
  have hd2 : decide (1 < (n : Int)) = false := by rw [decide_eq_false_iff_not]; omega
  go_enter Try.func89, Try.ntmps89
  go_wp2_with fail
  refine wp_loop_rounds 1 ?_
  rw [rounds_succ]
  go_wp2_with fail
  go_end0
  exact ⟨rfl, rfl⟩
end Go.Proofs.Ythaceagaodjllaa
