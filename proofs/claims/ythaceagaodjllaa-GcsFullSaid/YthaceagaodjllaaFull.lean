/- The law GcsFull, walked: it answers true. No condition. -/
import Derived.Test.YthaceagaodjllaaMatches
import Derived.Test.YthaceagaodjllaaIns
namespace Go.Proofs.Ythaceagaodjllaa
open Go.RowKit


/-- The law's item i: its bytes. -/
def fullT (i : Nat) : List UInt8 := [UInt8.ofNat (i % 256), UInt8.ofNat (i / 256)]
def fullL (n : Nat) : List (List UInt8) := (List.range n).map fullT
@[simp] theorem fullL_length (n : Nat) : (fullL n).length = n := by simp [fullL]
@[simp] theorem fullT_length (n : Nat) : (fullT n).length = 2 := rfl
theorem fullL_get (n k : Nat) (h : k < (fullL n).length) : (fullL n)[k] = fullT k := by simp [fullL]
theorem fullL_succ (n : Nat) : fullL (n + 1) = fullL n ++ [fullT n] := by simp [fullL, List.range_succ]
theorem fullT_inj {a b : Nat} (ha : a < 65536) (hb : b < 65536) (h : fullT a = fullT b) : a = b := by
  simp only [fullT, List.cons.injEq, and_true] at h
  have h1 := congrArg UInt8.toNat h.1
  have h2 := congrArg UInt8.toNat h.2
  simp only [UInt8.toNat_ofNat'] at h1 h2
  omega
theorem fullL_nodup (n : Nat) (h : n ≤ 65536) : (fullL n).Nodup := by
  unfold fullL List.Nodup
  rw [List.pairwise_map]
  refine List.Pairwise.imp_of_mem ?_ List.pairwise_lt_range
  intro a b ha hb hab e
  have := fullT_inj (by have := List.mem_range.1 ha; omega) (by have := List.mem_range.1 hb; omega) e
  omega
theorem onceL_of_nodup (ls : List (List UInt8)) (h : ls.Nodup) : onceL ls = ls := by
  induction ls using snoc_rec with
  | nil => rfl
  | snoc r b ih =>
    rw [List.nodup_append] at h
    obtain ⟨h1, _, h3⟩ := h
    rw [onceL_snoc, ih h1, if_neg]
    intro hm
    exact h3 b hm b (by simp) rfl
theorem onceL_full (n : Nat) (h : n ≤ 65536) : onceL (fullL n) = fullL n := onceL_of_nodup _ (fullL_nodup n h)
theorem onceL_full_twice (n : Nat) (h : n ≤ 65536) (h0 : 0 < n) : onceL (fullL n ++ [fullT 0]) = fullL n := by
  rw [onceL_snoc, onceL_full n h, if_pos]
  exact List.mem_map.2 ⟨0, List.mem_range.2 h0, rfl⟩

/-- Slices of blocks of their own, each known whole; none is the block `o`. -/
structure Fvs (w : World) (o : Option Nat) (vs : List Value) (k : Nat) : Prop where
  len : vs.length = k
  each : ∀ j (h : j < vs.length), ∃ b, vs[j] = .slice (some ⟨b, 0, none⟩) 2 2 ∧ Row w b 5 (u8s (fullT j)) ∧ some b ≠ o
theorem Fvs.tvs {w : World} {o : Option Nat} {vs : List Value} {k : Nat} (h : Fvs w o vs k) : Tvs w w.heap.size vs (fullL k) := ⟨by rw [h.len]; simp, fun j h1 h2 => by
  obtain ⟨b, hv, hr, _⟩ := h.each j h1
  rw [fullL_get, hv]
  exact ⟨some ⟨b, 0, none⟩, 2, rfl, Nat.le_refl _, by decide, Rd.row hr⟩⟩
theorem Fvs.alloc {w : World} {o : Option Nat} {vs : List Value} {k : Nat} (h : Fvs w o vs k) (x : Obj) : Fvs (w.alloc x) o vs k := ⟨h.len, fun j h1 => by
  obtain ⟨b, hv, hr, hn⟩ := h.each j h1
  exact ⟨b, hv, hr.alloc _, hn⟩⟩
/-- Behind an append into the block o. -/
theorem Fvs.grown {w w' : World} {o o' : Option Nat} {vs : List Value} {k : Nat} (h : Fvs w o vs k) (hg : w.grownBy w' o) (ho : o' = o ∨ o' = some w.heap.size) : Fvs w' o' vs k := ⟨h.len, fun j h1 => by
  obtain ⟨b, hv, hr, hn⟩ := h.each j h1
  refine ⟨b, hv, hr.grown hg hn, ?_⟩
  rcases ho with rfl | rfl
  · exact hn
  · intro e
    have := hr.lt
    injection e with e
    omega⟩
theorem Fvs.snoc {w : World} {o : Option Nat} {vs : List Value} {k b : Nat} (h : Fvs w o vs k) (hr : Row w b 5 (u8s (fullT k))) (hn : some b ≠ o) : Fvs w o (vs ++ [.slice (some ⟨b, 0, none⟩) 2 2]) (k + 1) := ⟨by simp [h.len], fun j h1 => by
  rcases Nat.lt_or_ge j vs.length with hj | hj
  · obtain ⟨b', hv, hr', hn'⟩ := h.each j hj
    exact ⟨b', by rw [List.getElem_append_left hj]; exact hv, hr', hn'⟩
  · have hl := h.len
    simp at h1
    obtain rfl : j = k := by omega
    refine ⟨b, ?_, hr, hn⟩
    rw [List.getElem_append_right hj]
    simp⟩

theorem and7 (x : Int) : ∃ n : Nat, 996 ≤ n ∧ n ≤ 1003 ∧ wrap64 (996 + bits .and .i64 x 7) = (n : Int) := by
  have h7 : (BitVec.ofInt IntKind.i64.bits x &&& BitVec.ofInt IntKind.i64.bits 7).toNat ≤ 7 := by
    rw [BitVec.toNat_and]
    exact Nat.and_le_right
  have hb : bits .and .i64 x 7 = (((BitVec.ofInt IntKind.i64.bits x &&& BitVec.ofInt IntKind.i64.bits 7).toNat : Nat) : Int) := by
    show IntKind.i64.wrap _ = _
    exact IntWalk.i64_in _ (by simp only; omega)
  generalize (BitVec.ofInt IntKind.i64.bits x &&& BitVec.ofInt IntKind.i64.bits 7).toNat = r at *
  refine ⟨996 + r, by omega, by omega, ?_⟩
  rw [hb]
  unfold wrap64
  omega

set_option maxRecDepth 100000 in
set_option maxHeartbeats 4000000 in
theorem full_any (x : Int) (tw : Bool) (w : World) :
    Calls Try.prog 8 #[.int .i64 x, .bool tw] w fun e w' => e = .returned (.bool true) ∧ Below w.heap.size w w' := by
  obtain ⟨n, hn1, hn2, hn⟩ : ∃ n : Nat, 996 ≤ n ∧ n ≤ 1003 ∧ wrap64 (996 + bits .and .i64 x 7) = (n : Int) := and7 x
  go_enter Try.func8, Try.ntmps8
  go_wp2_with fail
  rw [hn]
  clear hn
  go_loopg [5, 15] n (fun m out i wx => ∃ (k : Nat) (A' : Option Addr) (c' : Nat) (vs : List Value), m = n - k ∧ k ≤ n ∧ i = .int .i64 (k : Int) ∧ out = .slice A' k c' ∧ Fvs wx (Value.slice A' k c').ownBlock vs k ∧
    wx.ownsRow w.heap.size 27 1 (.slice A' k c') k vs ∧ Below w.heap.size w wx)
  case atStart => exact ⟨0, none, 0, [], by omega, by omega, rfl, rfl, ⟨rfl, fun j h => by simp at h⟩, World.ownsRow_nil _ _ _ _, Below.refl _ _⟩
  case round =>
    obtain ⟨k, A', c', vs, rfl, hk, rfl, rfl, hf, hown, hbl⟩ := hrel
    by_cases hlt : k < n
    · have HU : Hid (u8s (fullT k) = [.int .u8 ((k : Int) % 256), .int .u8 ((k : Int) / 256)]) := Lib.hid (by
        simp only [u8s, fullT, List.map_cons, List.map_nil, UInt8.toNat_ofNat']
        rw [show ((k % 256 % 2 ^ 8 : Nat) : Int) = (k : Int) % 256 by omega, show ((k / 256 % 2 ^ 8 : Nat) : Int) = (k : Int) / 256 by omega])
      have hs := hbl.size
      have hf1 := (hf.alloc (.cells #[.int .u8 ((k : Int) % 256), .int .u8 ((k : Int) / 256)] 5)).alloc (.cells #[.slice (some ⟨wr.heap.size, 0, none⟩) 2 2] 27)
      have hr1 : Row ((wr.alloc (.cells #[.int .u8 ((k : Int) % 256), .int .u8 ((k : Int) / 256)] 5)).alloc (.cells #[.slice (some ⟨wr.heap.size, 0, none⟩) 2 2] 27)) wr.heap.size 5 (u8s (fullT k)) := by
        rw [HU.out]
        exact (Row.new wr 5 [.int .u8 ((k : Int) % 256), .int .u8 ((k : Int) / 256)]).alloc _
      have hownA : ((wr.alloc (.cells #[.int .u8 ((k : Int) % 256), .int .u8 ((k : Int) / 256)] 5)).alloc (.cells #[.slice (some ⟨wr.heap.size, 0, none⟩) 2 2] 27)).ownsRow w.heap.size 27 1 (.slice A' k c') k vs := own_up hown (by (repeat' (first | (with_reducible exact Below.refl _ _) | (with_reducible assumption) | (with_reducible refine Below.alloc ?_ ?_ _) | (with_reducible refine Below.drew ?_) | (with_reducible refine below_drewN ?_ _) | (with_reducible refine Below.setCell ?_ ?_ _) | (first | (with_reducible exact Nat.le_refl _) | (with_reducible assumption) | omega | (simp; omega) | (simp; done)))))
      have hrd1 : Rd ((wr.alloc (.cells #[.int .u8 ((k : Int) % 256), .int .u8 ((k : Int) / 256)] 5)).alloc (.cells #[.slice (some ⟨wr.heap.size, 0, none⟩) 2 2] 27)) (wr.heap.size + 2) (some ⟨wr.heap.size + 1, 0, none⟩) [.slice (some ⟨wr.heap.size, 0, none⟩) 2 2] := by
        simpa using rd_one (wr.alloc (.cells #[.int .u8 ((k : Int) % 256), .int .u8 ((k : Int) / 256)] 5)) 27 (.slice (some ⟨wr.heap.size, 0, none⟩) 2 2)
      have hf2 := hf1.snoc hr1 (fun e => by have := (hown.lt _ e.symm).2; omega)
      have hb1 : Below w.heap.size w ((wr.alloc (.cells #[.int .u8 ((k : Int) % 256), .int .u8 ((k : Int) / 256)] 5)).alloc (.cells #[.slice (some ⟨wr.heap.size, 0, none⟩) 2 2] 27)) := (hbl.alloc hs _).alloc (by simp; omega) _
      go_wp2_with (at_builtin; refine wpList_app el_sl rfl (.tmp 18) (.tmp 25) rfl rfl hownA rfl hrd1 (m := 1) (by simp) (by simp [Value.oneCell']) (by unfold maxLen; omega) (by omega) (by simp; omega) ?_; intro A3 c3 w3 hown3 hg3 hat3)
      go_roundg (n - (k + 1))
      case measure => omega
      case rel => exact ⟨k + 1, A3, c3, _, rfl, by omega, by go_num, rfl, hf2.grown hg3 hat3, hown3, hb1.trans (grown_below hownA hg3 (Nat.le_refl _) (by simp; omega))⟩
    · obtain rfl : k = n := by omega
      have hlv := hf.len
      cases tw with
      | false =>
        have hrdT := own_rd hown
        have hvsT := hf.tvs
        have hblT := hbl
        have hlT : (fullL k).length = k := by simp
        have hoT := onceL_full k (by omega)
        obtain ⟨lsT, hls⟩ : ∃ l, l = fullL k := ⟨_, rfl⟩
        obtain ⟨vsT, hvs⟩ : ∃ l, l = vs := ⟨_, rfl⟩
        rw [← hls] at hvsT hlT
        rw [← hvs] at hrdT hvsT
        have hoT : onceL lsT = fullL k := by rw [hls, hoT]
        clear hls hvs hown hf hbl
        have hbuild := build_any 3 4 A' c' vsT lsT wr hrdT hvsT (by omega) (sort_ok _ (by rw [hoT]; simp; omega))
        rw [hlT] at hbuild
        by_cases hbig : 1000 < k
        · rw [show buildL 3 4 lsT = ([], 4) by unfold buildL; rw [if_pos (by rw [hoT]; simpa using hbig)]] at hbuild
          have HB := Lib.hid hbuild
          clear hbuild hoT hrdT hvsT
          go_wp2_with fail
          refine HB.out.mono ?_
          rintro e w5 ⟨A6, c6, rfl, hown6, hb6⟩
          have hbl6 := hblT.trans (hb6.mono hblT.size)
          go_wp2_with fail
          refine (awake_any _).mono ?_
          rintro e w7 ⟨rfl, hb7⟩
          go_wp2_with fail
          go_ret
          exact ⟨rfl, hbl6.trans (hb7.mono hbl6.size)⟩
        · have hv := vals_build 3 4 lsT (by rw [hoT]; simp; omega)
          have hnl : (numsL 3 4 lsT).length = k := by rw [numsL_length, hoT]; simp
          have hb2 : (buildL 3 4 lsT).2 = 0 := by unfold buildL; rw [if_neg (by rw [hoT]; simpa using hbig)]
          have hbb := buildL_length 3 4 lsT
          rw [hb2] at hbuild
          generalize (buildL 3 4 lsT).1 = bs at *
          have HB := Lib.hid hbuild
          have HV := Lib.hid hv
          have HNL := Lib.hid hnl
          clear hbuild hoT hv hb2 hnl hrdT hvsT
          go_wp2_with fail
          refine HB.out.mono ?_
          rintro e w5 ⟨A6, c6, rfl, hown6, hb6⟩
          have hbl6 := hblT.trans (hb6.mono hblT.size)
          have hval := values_any A6 c6 bs w5 (own_rd hown6) (by omega)
          rw [HV.out] at hval
          simp only at hval
          rw [HNL.out] at hval
          have HVAL := Lib.hid hval
          clear hval hown6 hb6
          go_wp2_with fail
          refine HVAL.out.mono ?_
          rintro e w6 ⟨A7, c7, rfl, hown7, hb7⟩
          have hbl7 := hbl6.trans (hb7.mono hbl6.size)
          clear hown7 hb7
          go_wp2_with fail
          refine (awake_any _).mono ?_
          rintro e w8 ⟨rfl, hb8⟩
          go_wp2_with fail
          go_ret
          exact ⟨rfl, hbl7.trans (hb8.mono hbl7.size)⟩
      | true =>
        have hs := hbl.size
        obtain ⟨b, off, rfl, _, _, hcell⟩ := (own_rd hown).at (k := 0) (by omega)
        obtain ⟨b0, hv0, hr0, hn0⟩ := hf.each 0 (by omega)
        rw [hv0, Nat.add_zero] at hcell
        have hrdA := rd_one wr 27 (.slice (some ⟨b0, 0, none⟩) 2 2)
        have hownA : (wr.alloc (.cells #[.slice (some ⟨b0, 0, none⟩) 2 2] 27)).ownsRow w.heap.size 27 1 (.slice (some ⟨b, off, none⟩) k c') k vs := own_up hown (by (repeat' (first | (with_reducible exact Below.refl _ _) | (with_reducible assumption) | (with_reducible refine Below.alloc ?_ ?_ _) | (with_reducible refine Below.drew ?_) | (with_reducible refine below_drewN ?_ _) | (with_reducible refine Below.setCell ?_ ?_ _) | (first | (with_reducible exact Nat.le_refl _) | (with_reducible assumption) | omega | (simp; omega) | (simp; done)))))
        have hf1 := hf.alloc (.cells #[.slice (some ⟨b0, 0, none⟩) 2 2] 27)
        have hr1 := hr0.alloc (.cells #[.slice (some ⟨b0, 0, none⟩) 2 2] 27)
        go_wp2_with (at_builtin; refine wpList_app el_sl rfl (.tmp 29) (.tmp 33) rfl rfl hownA rfl hrdA (m := 1) (by simp) (by simp [Value.oneCell']) (by unfold maxLen; omega) (by omega) (by simp; omega) ?_; intro A3 c3 w3 hown3 hg3 hat3)
        have hf2 := hf1.grown hg3 hat3
        have hr2 := hr1.grown hg3 hn0
        have hrdT := own_rd hown3
        have htx : Txv w3 w3.heap.size (.slice (some ⟨b0, 0, none⟩) 2 2) (fullT 0) := ⟨some ⟨b0, 0, none⟩, 2, rfl, Nat.le_refl _, by decide, Rd.row hr2⟩
        have hvsT := hf2.tvs.snoc htx
        have hblT := (hbl.alloc hbl.size (.cells #[.slice (some ⟨b0, 0, none⟩) 2 2] 27)).trans (grown_below hownA hg3 (Nat.le_refl _) (by simp; omega))
        have hlT : (fullL k ++ [fullT 0]).length = k + 1 := by simp
        have hoT := onceL_full_twice k (by omega) (by omega)
        clear hf2 hr2 hown3 htx hg3 hat3 hf1 hr1 hrdA hownA hf hown hcell hv0 hr0 hn0 hbl
        generalize vs ++ [.slice (some ⟨b0, 0, none⟩) 2 2] = vsT at *
        generalize fullL k ++ [fullT 0] = lsT at *
        have hbuild := build_any 3 4 A3 c3 vsT lsT w3 hrdT hvsT (by omega) (sort_ok _ (by rw [hoT]; simp; omega))
        rw [hlT] at hbuild
        by_cases hbig : 1000 < k
        · rw [show buildL 3 4 lsT = ([], 4) by unfold buildL; rw [if_pos (by rw [hoT]; simpa using hbig)]] at hbuild
          have HB := Lib.hid hbuild
          clear hbuild hoT hrdT hvsT
          go_wp2_with fail
          refine HB.out.mono ?_
          rintro e w5 ⟨A6, c6, rfl, hown6, hb6⟩
          have hbl6 := hblT.trans (hb6.mono hblT.size)
          go_wp2_with fail
          refine (awake_any _).mono ?_
          rintro e w7 ⟨rfl, hb7⟩
          go_wp2_with fail
          go_ret
          exact ⟨rfl, hbl6.trans (hb7.mono hbl6.size)⟩
        · have hv := vals_build 3 4 lsT (by rw [hoT]; simp; omega)
          have hnl : (numsL 3 4 lsT).length = k := by rw [numsL_length, hoT]; simp
          have hb2 : (buildL 3 4 lsT).2 = 0 := by unfold buildL; rw [if_neg (by rw [hoT]; simpa using hbig)]
          have hbb := buildL_length 3 4 lsT
          rw [hb2] at hbuild
          generalize (buildL 3 4 lsT).1 = bs at *
          have HB := Lib.hid hbuild
          have HV := Lib.hid hv
          have HNL := Lib.hid hnl
          clear hbuild hoT hv hb2 hnl hrdT hvsT
          go_wp2_with fail
          refine HB.out.mono ?_
          rintro e w5 ⟨A6, c6, rfl, hown6, hb6⟩
          have hbl6 := hblT.trans (hb6.mono hblT.size)
          have hval := values_any A6 c6 bs w5 (own_rd hown6) (by omega)
          rw [HV.out] at hval
          simp only at hval
          rw [HNL.out] at hval
          have HVAL := Lib.hid hval
          clear hval hown6 hb6
          go_wp2_with fail
          refine HVAL.out.mono ?_
          rintro e w6 ⟨A7, c7, rfl, hown7, hb7⟩
          have hbl7 := hbl6.trans (hb7.mono hbl6.size)
          clear hown7 hb7
          go_wp2_with fail
          refine (awake_any _).mono ?_
          rintro e w8 ⟨rfl, hb8⟩
          go_wp2_with fail
          go_ret
          exact ⟨rfl, hbl7.trans (hb8.mono hbl7.size)⟩
end Go.Proofs.Ythaceagaodjllaa
