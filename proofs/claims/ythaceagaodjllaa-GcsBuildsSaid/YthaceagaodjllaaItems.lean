/- Lists of texts: slices of slices of bytes; 'unlike': each once. Lists of up to 2^30. -/
import Derived.Test.YthaceagaodjllaaRef13
import Derived.Maps.OwnOps
import Derived.Maps.Views
import Derived.Maps.OwnSet
namespace Go.Proofs.Ythaceagaodjllaa
open Go.RowKit Go.WideMaps Go.Maps

theorem el_sl : Elem Try.prog 24 27 (.slice none 0 0) 1 24 := ⟨Try.underlying24, by kernel_rfl, rfl, by decide⟩
theorem law_str : Keyed Try.prog 9 := string_keyed Try.underlying9
theorem zero_int (w : World) : (zeroValue 3).run Try.prog w = .ok (.int .i64 0) w := by kernel_rfl

/-- A slice value that reads as bytes, below block B. -/
structure Txv (w : World) (B : Nat) (v : Value) (l : List UInt8) : Prop where
  ex : ∃ A c, v = .slice A l.length c ∧ l.length ≤ c ∧ c ≤ 9223372036854775807 ∧ Rd w B A (u8s l)
/-- So do several. -/
structure Tvs (w : World) (B : Nat) (vs : List Value) (ls : List (List UInt8)) : Prop where
  len : vs.length = ls.length
  each : ∀ k (h : k < vs.length) (h' : k < ls.length), Txv w B vs[k] ls[k]
section
variable {w w' : World} {B B' : Nat} {v : Value} {l : List UInt8} {vs : List Value} {ls : List (List UInt8)}
theorem Txv.below (h : Txv w B v l) (hb : Below B w w') : Txv w' B v l := by
  obtain ⟨A, c, e, h1, h2, h3⟩ := h.ex
  exact ⟨A, c, e, h1, h2, h3.below hb⟩
theorem Txv.more (h : Txv w B v l) (hB : B ≤ B') : Txv w B' v l := by
  obtain ⟨A, c, e, h1, h2, h3⟩ := h.ex
  exact ⟨A, c, e, h1, h2, h3.more hB⟩
theorem Txv.one (h : Txv w B v l) : v.oneCell' = true := by
  obtain ⟨A, c, rfl, _⟩ := h.ex
  rfl
theorem Tvs.below (h : Tvs w B vs ls) (hb : Below B w w') : Tvs w' B vs ls := ⟨h.len, fun k h1 h2 => (h.each k h1 h2).below hb⟩
theorem Tvs.more (h : Tvs w B vs ls) (hB : B ≤ B') : Tvs w B' vs ls := ⟨h.len, fun k h1 h2 => (h.each k h1 h2).more hB⟩
theorem Tvs.nil (w : World) (B : Nat) : Tvs w B [] [] := ⟨rfl, fun k h => by simp at h⟩
theorem Tvs.snoc (h : Tvs w B vs ls) (h1 : Txv w B v l) : Tvs w B (vs ++ [v]) (ls ++ [l]) := ⟨by simp [h.len], fun k h2 h3 => by
  rcases Nat.lt_or_ge k vs.length with hk | hk
  · rw [List.getElem_append_left hk, List.getElem_append_left (by have := h.len; omega)]
    exact h.each _ _ _
  · have hl := h.len
    simp at h2 h3
    obtain rfl : k = vs.length := by omega
    simp only [List.getElem_append_right (Nat.le_refl _), Nat.sub_self, List.getElem_cons_zero]
    rw [List.getElem_append_right (by omega)]
    simp only [hl, Nat.sub_self, List.getElem_cons_zero]
    exact h1⟩
theorem Tvs.append {vs2 : List Value} {ls2 : List (List UInt8)} (h : Tvs w B vs ls) (h1 : Tvs w B vs2 ls2) : Tvs w B (vs ++ vs2) (ls ++ ls2) := ⟨by simp [h.len, h1.len], fun k h2 h3 => by
  have hl := h.len
  rcases Nat.lt_or_ge k vs.length with hk | hk
  · rw [List.getElem_append_left hk, List.getElem_append_left (by omega)]
    exact h.each _ _ _
  · rw [List.getElem_append_right hk, List.getElem_append_right (by omega)]
    have := h1.each (k - vs.length) (by simp at h2; omega) (by simp at h3; omega)
    simpa only [hl] using this⟩
theorem Tvs.one (h : Tvs w B vs ls) : ∀ u ∈ vs, u.oneCell' = true := fun u hu => by
  obtain ⟨k, hk, rfl⟩ := List.getElem_of_mem hu
  exact (h.each k hk (by have := h.len; omega)).one
end
/-- Each once. -/
def onceL (ls : List (List UInt8)) : List (List UInt8) := ls.foldl (fun acc t => if t ∈ acc then acc else acc ++ [t]) []
@[simp] theorem onceL_nil : onceL [] = [] := rfl
theorem onceL_snoc (ls : List (List UInt8)) (t : List UInt8) : onceL (ls ++ [t]) = if t ∈ onceL ls then onceL ls else onceL ls ++ [t] := by
  rw [onceL, List.foldl_append]
  rfl
theorem mem_onceL (ls : List (List UInt8)) (t : List UInt8) : t ∈ onceL ls ↔ t ∈ ls := by
  induction ls using snoc_rec with
  | nil => simp
  | snoc r b ih =>
    rw [onceL_snoc]
    by_cases h : b ∈ onceL r
    · rw [if_pos h]
      simp only [List.mem_append, List.mem_singleton, ih]
      constructor
      · exact .inl
      · rintro (h1 | rfl)
        · exact h1
        · exact ih.1 (by rwa [ih] at h ⊢) |> id
    · rw [if_neg h]; simp [ih]
theorem onceL_length (ls : List (List UInt8)) : (onceL ls).length ≤ ls.length := by
  induction ls using snoc_rec with
  | nil => simp
  | snoc r b ih =>
    rw [onceL_snoc]
    split <;> simp <;> omega

theorem count_onceL (ls : List (List UInt8)) (t : List UInt8) : ls.count t = 0 ↔ t ∉ onceL ls := by rw [mem_onceL, List.count_eq_zero]
theorem i64_inj {H : Type} {a b : Int} (h : (DataW.lit (.int .i64 a) : DataW H) = .lit (.int .i64 b)) : a = b := by
  injection h with h
  injection h

set_option maxRecDepth 20000 in
set_option maxHeartbeats 1000000 in
theorem unlike_any (A : Option Addr) (c : Nat) (vs : List Value) (ls : List (List UInt8)) (w : World) (hrd : Rd w w.heap.size A vs) (hvs : Tvs w w.heap.size vs ls) (hl : ls.length ≤ 1073741824) :
    Calls Try.prog 19 #[.slice A ls.length c] w fun e w' => ∃ A' c' us, e = .returned (.slice A' (onceL ls).length c') ∧ w'.ownsRow w.heap.size 27 1 (.slice A' (onceL ls).length c') (onceL ls).length us ∧
      Tvs w' w.heap.size us (onceL ls) ∧ Below w.heap.size w w' := by
  have hmm := @run_makeMap Try.prog
  have hlen := hvs.len
  go_enter Try.func19, Try.ntmps19
  go_wp2_with fail
  go_loopg [4, 10] ls.length (fun m out i wx => ∃ (k : Nat) (A' : Option Addr) (c' : Nat) (us : List Value) (D : DataW Unit), m = ls.length - k ∧ k ≤ ls.length ∧ i = .int .i64 (k : Int) ∧ out = .slice A' (onceL (ls.take k)).length c' ∧
    wx.ownsMap Try.prog 9 (plainElem Try.prog 3) w.heap.size k D ∧ (∀ s : List UInt8, D.atKey (.string s) (.lit (.int .i64 0)) = .lit (.int .i64 ((ls.take k).count s : Nat))) ∧
    wx.ownsRow (w.heap.size + 1) 27 1 (.slice A' (onceL (ls.take k)).length c') (onceL (ls.take k)).length us ∧ Tvs w w.heap.size us (onceL (ls.take k)) ∧ Below w.heap.size w wx)
  case atStart => exact ⟨0, none, 0, [], .map [], by omega, by omega, rfl, by simp, World.ownsMap_made _ _ _ _, fun s => by simp [DataW.atKey], by simpa using World.ownsRow_nil _ _ _ _, by simpa using Tvs.nil _ _, by (repeat' (first | (with_reducible exact Below.refl _ _) | (with_reducible assumption) | (with_reducible refine Below.alloc ?_ ?_ _) | (with_reducible refine Below.drew ?_) | (with_reducible refine below_drewN ?_ _) | (with_reducible refine Below.setCell ?_ ?_ _) | (first | (with_reducible exact Nat.le_refl _) | (with_reducible assumption) | omega | (simp; omega) | (simp; done))))⟩
  case round =>
    obtain ⟨k, A', c', us, D, rfl, hk, rfl, rfl, hmap, hat, hown, hus, hbl⟩ := hrel
    have HAT := Lib.hid hat
    clear hat
    by_cases hlt : k < ls.length
    · obtain ⟨b, off, rfl, _, _, hcell⟩ := (hrd.below hbl).at (k := k) (by omega)
      have htv := hvs.each k (by omega) hlt
      have HT : Hid (ls.take (k + 1) = ls.take k ++ [ls[k]]) := Lib.hid (take_snoc ls k hlt)
      have hmem := count_onceL (ls.take k) ls[k]
      have hol := onceL_length (ls.take k)
      have hol2 : (ls.take k).length ≤ k := by simp; omega
      generalize ls[k] = t at *
      obtain ⟨At, ct, hv, hc1, hc2, hrt⟩ := htv.ex
      rw [hv] at hcell htv
      have HV := Lib.hid hv
      have hcv1 := run_back (P := Try.prog) 27 9 5 (c := ct) Try.underlying27 Try.underlying5 Try.underlying9 (hrt.below hbl)
      have hkey : keyOf Try.prog 9 (.string (tx t)) = some (.string t) := by
        have h := keyOf_string_mk (P := Try.prog) (k := 9) (s := tx t) Try.underlying9 (by simp [maxLen]; omega)
        simpa [tx] using h
      have HKL := Lib.hid (law_str.key hkey)
      generalize hacc : onceL (ls.take k) = acc at *
      have HACC := Lib.hid hacc
      generalize hcn : (ls.take k).count t = cn at *
      have HCN := Lib.hid hcn
      have HM := Lib.hid hmem
      have hcn2 : cn ≤ k := by rw [← hcn]; exact Nat.le_trans (List.count_le_length) hol2
      clear hv hacc hcn hmem
      have hbs := hbl.size
      go_wp2_with (first
        | (at_lookup; refine wpList_lookup_own_int _ rfl _ _ 85 rfl 9 3 .i64 law_str Try.underlying85 Try.underlying3 (zero_int _) w.heap.size k _ rfl hmap _ _ rfl hkey ?_; intro c0 hat0 hwc0
           have hc0 : c0 = (cn : Int) := i64_inj (hat0.symm.trans (by rw [HAT.out, HCN.out]))
           subst hc0; clear hat0 hwc0)
        | (at_mapUpdate; refine wpList_mapUpdate_own _ rfl _ _ _ 85 rfl 9 3 law_str Try.underlying85 _ w.heap.size k _ rfl hmap (by unfold maxLen; omega) _ _ _ rfl rfl hkey _ [] (plainElem_int Try.underlying3 (WalkArith.wf_i64 (by omega))) ?_; intro w1 hmap1 hg1))
      have hbl1 : Below w.heap.size w w1 := hbl.grown hg1 hbs (fun j hj => by cases hj; exact Nat.le_refl _)
      have hcv2 := run_back (P := Try.prog) 27 9 5 (c := ct) Try.underlying27 Try.underlying5 Try.underlying9 (hrt.below hbl1)
      have hown1 := hown.kept hg1 (.inr (fun e => by have := (hown.lt _ e).1; omega))
      have HAT1 : Hid (∀ s : List UInt8, (D.put (.string t) (.lit (.int .i64 ((cn : Int) + 1)))).atKey (.string s) (.lit (.int .i64 0)) = .lit (.int .i64 ((ls.take (k + 1)).count s : Nat))) := Lib.hid (fun s => by
        rw [HT.out, List.count_append, List.count_singleton]
        by_cases hs : s = t
        · subst hs
          rw [atKey_put_same hmap.isMap HKL.out, HCN.out]
          simp
        · rw [atKey_put_other (fun e => hs (by injection e)), HAT.out, if_neg (by simpa using fun e => hs e.symm)]
          simp)
      have hm1 := hmap.isMap
      by_cases hc0 : cn = 0
      · have hnm : t ∉ acc := HM.out.1 hc0
        have HACC1 : Hid (onceL (ls.take (k + 1)) = acc ++ [t]) := Lib.hid (by rw [HT.out, onceL_snoc, HACC.out, if_neg hnm])
        have hb1 : ((cn : Int) + 1 == 1) = true := by rw [beq_iff_eq]; omega
        have hownA : (w1.alloc (.cells #[.slice At t.length ct] 27)).ownsRow (w.heap.size + 1) 27 1 (.slice A' acc.length c') acc.length us := own_up hown1 (by (repeat' (first | (with_reducible exact Below.refl _ _) | (with_reducible assumption) | (with_reducible refine Below.alloc ?_ ?_ _) | (with_reducible refine Below.drew ?_) | (with_reducible refine below_drewN ?_ _) | (with_reducible refine Below.setCell ?_ ?_ _) | (first | (with_reducible exact Nat.le_refl _) | (with_reducible assumption) | omega | (simp; omega) | (simp; done)))))
        have hs1 := hbl1.size
        clear hnm hmap hg1 hcv1 hown hc0
        go_simp
        go_wp2_with (first
          | (at_lookup; (refine wpList_lookup_own_int _ rfl _ _ 85 rfl 9 3 .i64 law_str Try.underlying85 Try.underlying3 (zero_int _) w.heap.size (k + 1) _ rfl hmap1 _ _ rfl hkey ?_; intro c1 hat1 hwc1; have hc1' : c1 = (cn : Int) + 1 := i64_inj (hat1.symm.trans (atKey_put_same hm1 HKL.out _ _)); subst hc1'; clear hat1 hwc1))
          | (at_builtin; refine wpList_app el_sl rfl (.tmp 24) (.tmp 26) rfl rfl hownA rfl (rd_one w1 27 _) (m := 1) (by simp) (by simp [Value.oneCell']) (by unfold maxLen; omega) (by omega) (by simp; omega) ?_; intro A3 c3 w3 hown3 hg3 hat3))
        go_roundg (ls.length - (k + 1))
        case measure => omega
        case rel =>
          have hmapA := hmap1.alloc (.cells #[.slice At t.length ct] 27)
          refine ⟨k + 1, A3, c3, us ++ [.slice At t.length ct], _, rfl, by omega, by go_num, ?_, hmapA.kept hg3 (fun e => by have := (hownA.lt _ e.symm).1; omega), HAT1.out, ?_, ?_, ?_⟩
          · rw [HACC1.out]; exact slice_eq (by simp)
          · rw [HACC1.out, List.length_append, List.length_singleton]; exact hown3
          · rw [HACC1.out]; exact hus.snoc htv
          · exact (hbl1.alloc hbl1.size _).trans (grown_below hownA hg3 (by omega) (by simp; omega))
      · have hnm : t ∈ acc := by
          by_cases h : t ∈ acc
          · exact h
          · exact absurd (HM.out.2 h) hc0
        have HACC1 : Hid (onceL (ls.take (k + 1)) = acc) := Lib.hid (by rw [HT.out, onceL_snoc, HACC.out, if_pos hnm])
        have hb1 : ((cn : Int) + 1 == 1) = false := by rw [beq_eq_false_iff_ne]; omega
        clear hnm hmap hg1 hcv1 hown hc0
        go_simp
        go_wp2_with (first
          | (at_lookup; (refine wpList_lookup_own_int _ rfl _ _ 85 rfl 9 3 .i64 law_str Try.underlying85 Try.underlying3 (zero_int _) w.heap.size (k + 1) _ rfl hmap1 _ _ rfl hkey ?_; intro c1 hat1 hwc1; have hc1' : c1 = (cn : Int) + 1 := i64_inj (hat1.symm.trans (atKey_put_same hm1 HKL.out _ _)); subst hc1'; clear hat1 hwc1)))
        go_roundg (ls.length - (k + 1))
        case measure => omega
        case rel =>
          refine ⟨k + 1, A', c', us, _, rfl, by omega, by go_num, ?_, hmap1, HAT1.out, ?_, ?_, hbl1⟩
          · rw [HACC1.out]
          · rw [HACC1.out]; exact hown1
          · rw [HACC1.out]; exact hus
    · obtain rfl : k = ls.length := by omega
      rw [List.take_length] at hown hus
      go_wp2_with fail
      go_ret
      rw [List.take_length]
      exact ⟨A', c', us, rfl, own_base hown (by omega), hus.below hbl, hbl⟩
end Go.Proofs.Ythaceagaodjllaa
