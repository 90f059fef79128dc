/- gcs.numbers, gcs.Build: what they compute, if the sort sorts. Lists of up to 2^30. -/
import Derived.Test.YthaceagaodjllaaItems
namespace Go.Proofs.Ythaceagaodjllaa
open Go.RowKit

theorem sipHash_in (k0 k1 : Int) (l : List UInt8) : 0 ≤ sipHash k0 k1 l ∧ sipHash k0 k1 l ≤ 18446744073709551615 := by
  unfold sipHash sipEnd sipOut
  exact xor64_in _ _
/-- An item's number below m. -/
def itemN (k0 k1 : Int) (m : Nat) (t : List UInt8) : Nat := (sipHash k0 k1 t * (m : Int) / 18446744073709551616).toNat
theorem itemN_eq (k0 k1 : Int) (m : Nat) (t : List UInt8) : sipHash k0 k1 t * (m : Int) / 18446744073709551616 = (itemN k0 k1 m t : Int) := by
  have h := (sipHash_in k0 k1 t).1
  unfold itemN
  generalize sipHash k0 k1 t = x at *
  have : 0 ≤ x * (m : Int) := Int.mul_nonneg h (by omega)
  generalize x * (m : Int) = y at *
  omega
theorem itemN_le (k0 k1 : Int) (m : Nat) (t : List UInt8) : itemN k0 k1 m t ≤ m ∧ (0 < m → itemN k0 k1 m t < m) := by
  have h := sipHash_in k0 k1 t
  have e := itemN_eq k0 k1 m t
  generalize sipHash k0 k1 t = x at *
  have h2 : x * (m : Int) ≤ 18446744073709551615 * (m : Int) := Int.mul_le_mul_of_nonneg_right h.2 (by omega)
  generalize x * (m : Int) = y at *
  omega
def sortN (l : List Nat) : List Nat := l.mergeSort fun x y => decide (x ≤ y)
theorem sortN_length (l : List Nat) : (sortN l).length = l.length := List.length_mergeSort ..
theorem sortN_mem (l : List Nat) (x : Nat) : x ∈ sortN l ↔ x ∈ l := List.mem_mergeSort
theorem sortN_sorted (l : List Nat) : (sortN l).Pairwise (fun x y => x ≤ y) := by
  have := List.pairwise_mergeSort (le := fun x y : Nat => decide (x ≤ y)) (fun a b c h1 h2 => by simp at *; omega) (fun a b => by simp; omega) l
  simpa [sortN] using this
theorem rises_of_sorted (l : List Nat) (k : Nat) (h : l.Pairwise (fun x y => x ≤ y)) (hk : ∀ x ∈ l, k ≤ x) : risesFrom k l := by
  induction l generalizing k with
  | nil => trivial
  | cons n l ih =>
    rw [List.pairwise_cons] at h
    exact ⟨hk n (by simp), ih n h.2 h.1⟩
/-- The library's sort sorts lists of n numbers. -/
def SortOk (n : Nat) : Prop := ∀ (A : Option Addr) (c base : Nat) (xs : List Nat) (w : World), xs.length = n → (∀ x ∈ xs, x < 18446744073709551616) → w.ownsRow base 22 1 (.slice A n c) n (vnat xs) → base ≤ w.heap.size →
  Calls Try.prog 50 #[.slice A n c] w fun e w' => e = .returned (.tuple #[]) ∧ w'.ownsRow base 22 1 (.slice A n c) n (vnat (sortN xs)) ∧ w.grownBy w' (Value.slice A n c).ownBlock

set_option maxRecDepth 20000 in
set_option maxHeartbeats 1000000 in
theorem numbers_any_g (k0 k1 : Int) (A : Option Addr) (c m : Nat) (x : Int) (vs : List Value) (ls : List (List UInt8)) (w : World) (hx : x = (m : Int)) (hrd : Rd w w.heap.size A vs) (hvs : Tvs w w.heap.size vs ls) (hl : ls.length ≤ 1073741824)
    (hm : m < 18446744073709551616) (hs : SortOk ls.length) :
    Calls Try.prog 23 #[.agg #[.int .u64 k0, .int .u64 k1], .slice A ls.length c, .int .u64 x] w fun e w' => ∃ A' c', e = .returned (.slice A' ls.length c') ∧
      w'.ownsRow w.heap.size 22 1 (.slice A' ls.length c') ls.length (vnat (sortN (ls.map (itemN k0 k1 m)))) ∧ Below w.heap.size w w' := by
  subst hx
  have hlen := hvs.len
  go_enter Try.func23, Try.ntmps23
  go_wp2_with (with_reducible refine wpList_make el_u64 rfl (.const (.int .i64 0)) (.tmp 11) rfl (w.heap.size + 1) ls.length rfl rfl (by omega) (by omega) (by unfold maxLen; omega) (by simp) ?_; intro w1 hown1 hg1)
  have hbA : Below w.heap.size w (w.alloc (.cells #[.int .u64 k0, .int .u64 k1] 23)) := by (repeat' (first | (with_reducible exact Below.refl _ _) | (with_reducible assumption) | (with_reducible refine Below.alloc ?_ ?_ _) | (with_reducible refine Below.drew ?_) | (with_reducible refine below_drewN ?_ _) | (with_reducible refine Below.setCell ?_ ?_ _) | (first | (with_reducible exact Nat.le_refl _) | (with_reducible assumption) | omega | (simp; omega) | (simp; done))))
  have hrowA : Row (w.alloc (.cells #[.int .u64 k0, .int .u64 k1] 23)) w.heap.size 23 [.int .u64 k0, .int .u64 k1] := Row.new w _ [.int .u64 k0, .int .u64 k1]
  have hrow1 := hrowA.grown hg1 (by simp)
  have hb1 : Below w.heap.size w w1 := hbA.grown hg1 (by simp) (fun k hk => by cases hk)
  clear hrowA hbA hg1
  go_loopg [7, 15] ls.length (fun r out i wx => ∃ (k : Nat) (A' : Option Addr) (c' : Nat), r = ls.length - k ∧ k ≤ ls.length ∧ i = .int .i64 (k : Int) ∧ out = .slice A' k c' ∧ Row wx w.heap.size 23 [.int .u64 k0, .int .u64 k1] ∧
    wx.ownsRow (w.heap.size + 1) 22 1 (.slice A' k c') k (vnat ((ls.take k).map (itemN k0 k1 m))) ∧ Below w.heap.size w wx)
  case atStart => exact ⟨0, _, _, by omega, by omega, rfl, rfl, hrow1, by simpa [vnat] using hown1, hb1⟩
  case round =>
    obtain ⟨k, A', c', rfl, hk, rfl, rfl, hrow, hown, hbl⟩ := hrel
    by_cases hlt : k < ls.length
    · obtain ⟨b, off, rfl, _, _, hcell⟩ := (hrd.below hbl).at (k := k) (by omega)
      have htv := (hvs.each k (by omega) hlt).below hbl
      have HT : Hid ((ls.take (k + 1)).map (itemN k0 k1 m) = (ls.take k).map (itemN k0 k1 m) ++ [itemN k0 k1 m ls[k]]) := Lib.hid (by rw [take_snoc ls k hlt, List.map_append]; rfl)
      have he := itemN_eq k0 k1 m ls[k]
      have hle := (itemN_le k0 k1 m ls[k]).1
      generalize ls[k] = t at *
      obtain ⟨At, ct, hv, hc1, hc2, hrt⟩ := htv.ex
      rw [hv] at hcell
      have hcr := hrow.cell
      have hhash := hash_any k0 k1 At ct t wr (hrt.more hbl.size) hc1 (by omega)
      have hin := sipHash_in k0 k1 t
      generalize sipHash k0 k1 t = hx at *
      generalize itemN k0 k1 m t = y at *
      have HE := Lib.hid he
      have HH := Lib.hid hhash
      have hbs := hbl.size
      clear hv he hhash
      go_wp2_with fail
      refine HH.out.mono ?_
      rintro e w2 ⟨rfl, hb2⟩
      have hown2 := own_up hown hb2
      have hrow2 := hrow.below hb2 hrow.lt
      have hbl2 := hbl.trans (hb2.mono hbl.size)
      go_wp2_with fail
      refine (range_any hx m _ hin.1 hin.2 (by omega) (by omega)).mono ?_
      rintro e _ ⟨rfl, rfl⟩
      rw [HE.out]
      have hs2 := hbl2.size
      have hownA : (w2.alloc (.cells #[.int .u64 (y : Int)] 22)).ownsRow (w.heap.size + 1) 22 1 (.slice A' k c') k (vnat ((ls.take k).map (itemN k0 k1 m))) := own_up hown2 (by (repeat' (first | (with_reducible exact Below.refl _ _) | (with_reducible assumption) | (with_reducible refine Below.alloc ?_ ?_ _) | (with_reducible refine Below.drew ?_) | (with_reducible refine below_drewN ?_ _) | (with_reducible refine Below.setCell ?_ ?_ _) | (first | (with_reducible exact Nat.le_refl _) | (with_reducible assumption) | omega | (simp; omega) | (simp; done)))))
      have hl2 := hrow2.lt
      go_wp2_with (at_builtin; refine wpList_app el_u64 rfl (.tmp 19) (.tmp 25) rfl rfl hownA rfl (rd_one w2 22 _) (m := 1) (by simp) (one_int _ _) (by unfold maxLen; omega) (by omega) (by simp; omega) ?_; intro A3 c3 w3 hown3 hg3 hat3)
      go_roundg (ls.length - (k + 1))
      case measure => omega
      case rel =>
        refine ⟨k + 1, A3, c3, rfl, by omega, by go_num, rfl, (hrow2.alloc _).grown hg3 (fun e => by have := (hownA.lt _ e.symm).1; omega), ?_, ?_⟩
        · rw [HT.out]
          simpa [vnat] using hown3
        · exact (hbl2.alloc hbl2.size _).trans (grown_below hownA hg3 (by omega) (by simp; omega))
    · obtain rfl : k = ls.length := by omega
      rw [List.take_length] at hown
      have hsort := hs A' c' (w.heap.size + 1) _ wr (by simp) (fun x hx => by
        obtain ⟨t, _, rfl⟩ := List.mem_map.1 hx
        have := (itemN_le k0 k1 m t).1
        omega) hown hrow.lt
      have HSORT := Lib.hid hsort
      clear hsort
      go_wp2_with fail
      refine HSORT.out.mono ?_
      rintro e w2 ⟨rfl, hown2, hg2⟩
      go_wp2_with fail
      go_ret
      exact ⟨A', c', rfl, own_base hown2 (by omega), hbl.grown hg2 hbl.size (fun j hj => by have := (hown.lt j hj).1; omega)⟩
/-- The filter's numbers, in order. -/
def numsL (k0 k1 : Int) (ls : List (List UInt8)) : List Nat := sortN ((onceL ls).map (itemN k0 k1 (784931 * (onceL ls).length)))
theorem numsL_length (k0 k1 : Int) (ls : List (List UInt8)) : (numsL k0 k1 ls).length = (onceL ls).length := by simp [numsL, sortN_length]
theorem numsL_lt (k0 k1 : Int) (ls : List (List UInt8)) : ∀ x ∈ numsL k0 k1 ls, x < 784931 * (onceL ls).length := fun x hx => by
  unfold numsL at hx
  rw [sortN_mem] at hx
  obtain ⟨t, ht, rfl⟩ := List.mem_map.1 hx
  have : 0 < (onceL ls).length := List.length_pos_of_mem ht
  exact (itemN_le k0 k1 _ t).2 (by omega)
theorem numsL_rises (k0 k1 : Int) (ls : List (List UInt8)) : risesFrom 0 (numsL k0 k1 ls) := rises_of_sorted _ 0 (sortN_sorted _) (fun x _ => Nat.zero_le x)
/-- A list's filter; the error. -/
def buildL (k0 k1 : Int) (ls : List (List UInt8)) : List UInt8 × Nat :=
  if 1000 < (onceL ls).length then ([], 4) else (varB (onceL ls).length ++ pack (riceL 0 (numsL k0 k1 ls)), 0)
theorem riceL_numsL (k0 k1 : Int) (ls : List (List UInt8)) (h : (onceL ls).length ≤ 1000) : (riceL 0 (numsL k0 k1 ls)).length ≤ 784951000 := by
  have h1 := riceL_length 0 _ (numsL_rises k0 k1 ls) (784931 * (onceL ls).length) (numsL_lt k0 k1 ls) (by omega)
  rw [numsL_length] at h1
  omega
theorem varB_length (n : Nat) : (varB n).length ≤ 9 := by
  unfold varB
  split
  · simp
  · split
    · simp
    · split <;> simp

set_option maxRecDepth 20000 in
set_option maxHeartbeats 1000000 in
theorem build_any (k0 k1 : Int) (A : Option Addr) (c : Nat) (vs : List Value) (ls : List (List UInt8)) (w : World) (hrd : Rd w w.heap.size A vs) (hvs : Tvs w w.heap.size vs ls) (hl : ls.length ≤ 1073741824) (hs : SortOk (onceL ls).length) :
    Calls Try.prog 11 #[.agg #[.int .u64 k0, .int .u64 k1], .slice A ls.length c] w fun e w' => ∃ A' c', e = .returned (.tuple #[.slice A' (buildL k0 k1 ls).1.length c', .int .i64 ((buildL k0 k1 ls).2 : Int)]) ∧
      w'.ownsRow w.heap.size 5 1 (.slice A' (buildL k0 k1 ls).1.length c') (buildL k0 k1 ls).1.length (u8s (buildL k0 k1 ls).1) ∧ Below w.heap.size w w' := by
  have hlen := hvs.len
  have hol := onceL_length ls
  go_enter Try.func11, Try.ntmps11
  go_wp2_with fail
  have hbA : Below w.heap.size w (w.alloc (.cells #[.int .u64 k0, .int .u64 k1] 23)) := by (repeat' (first | (with_reducible exact Below.refl _ _) | (with_reducible assumption) | (with_reducible refine Below.alloc ?_ ?_ _) | (with_reducible refine Below.drew ?_) | (with_reducible refine below_drewN ?_ _) | (with_reducible refine Below.setCell ?_ ?_ _) | (first | (with_reducible exact Nat.le_refl _) | (with_reducible assumption) | omega | (simp; omega) | (simp; done))))
  have hrowA : Row (w.alloc (.cells #[.int .u64 k0, .int .u64 k1] 23)) w.heap.size 23 [.int .u64 k0, .int .u64 k1] := Row.new w _ [.int .u64 k0, .int .u64 k1]
  refine (unlike_any A c vs ls _ ((hrd.below hbA).more (by simp)) ((hvs.below hbA).more (by simp)) hl).mono ?_
  rintro e w1 ⟨A1, c1, us, rfl, hown1, hus, hb1⟩
  have hrow1 := hrowA.below hb1 hrowA.lt
  have hbl1 := hbA.trans (hb1.mono hbA.size)
  have hsz1 : w.heap.size + 1 ≤ w1.heap.size := by have := hb1.size; simp at this; omega
  have hus1 := hus.more hb1.size
  have hob : ∀ g, (Value.slice A1 (onceL ls).length c1).ownBlock = some g → g < w1.heap.size := fun g hg => (hown1.lt g hg).2
  clear hrowA hbA hb1
  by_cases hbig : 1000 < (onceL ls).length
  · have HV : Hid (buildL k0 k1 ls = ([], 4)) := by show buildL k0 k1 ls = _; rw [buildL, if_pos hbig]
    clear hown1 hus
    go_wp2_with fail
    go_ret2
    rw [HV.out]
    exact ⟨none, 0, rfl, World.ownsRow_nil _ _ _ _, hbl1⟩
  · have HV : Hid (buildL k0 k1 ls = (varB (onceL ls).length ++ pack (riceL 0 (numsL k0 k1 ls)), 0)) := by show buildL k0 k1 ls = _; rw [buildL, if_neg hbig]
    have hbits := riceL_numsL k0 k1 ls (by omega)
    have hrise := numsL_rises k0 k1 ls
    have hlt := numsL_lt k0 k1 ls
    have hnl := numsL_length k0 k1 ls
    have HNL : Hid (numsL k0 k1 ls = sortN ((onceL ls).map (itemN k0 k1 (784931 * (onceL ls).length)))) := rfl
    have hn : (onceL ls).length ≤ 1000 := by omega
    have hcvl := varB_length (onceL ls).length
    clear hbig
    generalize onceL ls = os at *
    go_wp2_with fail
    refine (new_any_w _).mono ?_
    rintro e w2 ⟨rfl, hwt2, hb2⟩
    have hrow2 := hrow1.below hb2 hrow1.lt
    have hown2 := own_up hown1 hb2
    have hus2 := hus1.below hb2
    have hsz2 := hb2.size
    have hbl2 := hbl1.trans (hb2.mono hbl1.size)
    clear hrow1 hown1 hus1 hus hb2
    go_wp2_with fail
    refine (var_any_w w1.heap.size w1.heap.size [] os.length _ w2 hwt2 (by simp) rfl (by omega)).mono ?_
    rintro e w3 ⟨rfl, hwt3, hb3⟩
    have hrow3 := hrow2.below hb3 (by omega)
    have hown3 := own_below hown2 hb3 hob
    have hus3 := (hus2.below hb3).more (Nat.le_trans hsz2 hb3.size)
    have hbl3 := hbl2.trans (hb3.mono hbl1.size)
    have hsz3 := hb3.size
    clear hrow2 hown2 hus2 hwt2 hb3 hbl2
    simp only [List.nil_append] at hwt3
    have hc3 := hrow3.cell
    have hnum := numbers_any_g k0 k1 A1 c1 (784931 * os.length) (784931 * (os.length : Int)) us os w3 (by omega) (own_rd hown3) hus3 (by omega) (by omega) hs
    rw [← HNL.out] at hnum
    have HNUM := Lib.hid hnum
    clear hnum
    go_wp2_with fail
    refine HNUM.out.mono ?_
    rintro e w4 ⟨A4, c4, rfl, hown4, hb4⟩
    have hwt4 := hwt3.up hb4
    have hbl4 := hbl3.trans (hb4.mono hbl3.size)
    clear hown3 hus3 hwt3 hc3 hrow3
    generalize numsL k0 k1 ls = ns at *
    have hst := steps_any A4 c4 ns w4 (own_rd hown4) (by omega) hrise (fun x hx => by have := hlt x hx; omega)
    rw [hnl] at hst
    have HST := Lib.hid hst
    have hpl := pack_length (riceL 0 ns)
    have HPL := Lib.hid hpl
    have HNLX := Lib.hid hnl
    clear hst hpl hlt hrise hnl
    go_wp2_with fail
    refine HST.out.mono ?_
    rintro e w5 ⟨A5, c5, rfl, hown5, hb5⟩
    have hwt5 := hwt4.up hb5
    have hbl5 := hbl4.trans (hb5.mono hbl4.size)
    rw [← HPL.out] at hown5 ⊢
    have hps : (pack (riceL 0 ns)).length ≤ 200000000 := by rw [HPL.out]; omega
    clear hwt4 hown4 hbits
    generalize pack (riceL 0 ns) = ps at *
    have hrd5 := own_rd hown5
    go_wp2_with fail
    have hnew : Row (w5.alloc (.cells #[.slice A5 ps.length c5] 27)) w5.heap.size 27 [.slice A5 ps.length c5] := Row.new w5 _ [.slice A5 ps.length c5]
    refine (put_any_w w1.heap.size w1.heap.size _ (some ⟨w5.heap.size, 0, none⟩) A5 1 c5 ps _ (hwt5.up (by (repeat' (first | (with_reducible exact Below.refl _ _) | (with_reducible assumption) | (with_reducible refine Below.alloc ?_ ?_ _) | (with_reducible refine Below.drew ?_) | (with_reducible refine below_drewN ?_ _) | (with_reducible refine Below.setCell ?_ ?_ _) | (first | (with_reducible exact Nat.le_refl _) | (with_reducible assumption) | omega | (simp; omega) | (simp; done)))))) (by omega) (by omega) (Rd.row hnew) ((hrd5.alloc _).more (by simp))).mono ?_
    rintro e w6 ⟨rfl, hwt6, hb6⟩
    have hbl6 := (hbl5.alloc hbl5.size (.cells #[.slice A5 ps.length c5] 27)).trans (hb6.mono hbl1.size)
    clear hnew hwt5 hb6
    go_wp2_with fail
    refine (bytes_any_w w1.heap.size w1.heap.size _ w6 hwt6 (by simp; omega)).mono ?_
    rintro e w7 ⟨A7, c7, rfl, hown7, hb7⟩
    go_wp2_with fail
    go_ret2
    rw [HV.out]
    dsimp only
    rw [List.length_append] at hown7 ⊢
    exact ⟨A7, c7, rfl, own_base hown7 hbl6.size, hbl6.trans (hb7.mono hbl6.size)⟩
end Go.Proofs.Ythaceagaodjllaa
