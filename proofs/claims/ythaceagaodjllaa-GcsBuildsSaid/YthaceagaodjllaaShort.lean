/- The library's bits.Len, by the kit's contract (laid by lay-shelf.mjs, lay-plain.mjs, and given names here). No condition. -/
import Derived.Shelf.Small.Bits
import Derived.Shelf.Strconv.Itoa0
import Derived.Sort.WalkA14
import Derived.Test.YthaceagaodjllaaAny
namespace Go.Proofs
open Go.Shelf
def Try.laysLen_ren : Go.Shelf.Ren := ⟨fun | 125 => 79 | 128 => 97 | 129 => 98 | n => n, fun | 46 => 48 | 3 => 3 | 51 => 140 | 53 => 22 | 4 => 4 | 5 => 5 | 9 => 9 | n => n, fun | n => n⟩
theorem Try.laysLen : Go.Proofs.Lays.n125 Try.prog Try.laysLen_ren := {
  mixed := by kernel_rfl
  f125 := Try.func79.trans (congrArg some (by kernel_rfl))
  f128 := Try.func97.trans (congrArg some (by kernel_rfl))
  f129 := Try.func98.trans (congrArg some (by kernel_rfl))
  t3 := Try.underlying3
  a3 := Try.isAgg3
  z3 := Try.sizeOf3
  v3 := Try.zeroValue3
  t4 := Try.underlying4
  a4 := Try.isAgg4
  z4 := Try.sizeOf4
  v4 := Try.zeroValue4
  t5 := Try.underlying5
  a5 := Try.isAgg5
  z5 := Try.sizeOf5
  v5 := Try.zeroValue5
  t9 := Try.underlying9
  a9 := Try.isAgg9
  z9 := Try.sizeOf9
  v9 := Try.zeroValue9
  t46 := Try.underlying48
  a46 := Try.isAgg48
  z46 := Try.sizeOf48
  v46 := Try.zeroValue48
  t51 := Try.underlying140
  a51 := Try.isAgg140
  z51 := Try.sizeOf140
  v51 := Try.zeroValue140
  t53 := Try.underlying22
  a53 := Try.isAgg22
  z53 := Try.sizeOf22
  v53 := Try.zeroValue22 }
/-- bits.Len, laid by the kit's shelf (lay-shelf.mjs, lay-plain.mjs). -/
theorem Try.bits_Len (x : Int) (w : World) (h0 : 0 ≤ x) (h1 : x ≤ 18446744073709551615) :
    Calls Try.prog 79 #[.int .u64 x] w fun e w' => e = .returned (.int .i64 (Lib.bitLen x.toNat)) ∧ w' = w := Any.bits_Len Try.laysLen x w h0 h1
end Go.Proofs
namespace Go.Proofs.Ythaceagaodjllaa
open Go.RowKit
theorem len_any (n : Nat) (x : Int) (w : World) (hx : x = (n : Int)) (hn : n < 18446744073709551616) :
    Calls Try.prog 79 #[.int .u64 x] w fun e w' => e = .returned (.int .i64 (Sort.bitsLen n : Nat)) ∧ w = w' := by
  subst hx
  refine (Try.bits_Len (n : Int) w (by omega) (by omega)).mono ?_
  rintro e w' ⟨rfl, rfl⟩
  rw [Int.toNat_natCast, bitLen_eq _ (by omega)]
  exact ⟨rfl, rfl⟩
theorem bitsLen_le (n : Nat) (h : n < 18446744073709551616) : Sort.bitsLen n ≤ 64 := by
  unfold Sort.bitsLen
  split
  · omega
  · rename_i h0
    have := (Nat.log2_lt h0 (k := 64)).2 (by omega)
    omega

set_option maxRecDepth 20000 in
set_option maxHeartbeats 1000000 in
theorem pdq_short (A : Option Addr) (c n m : Nat) (k : Int) (w : World) (hk : k = (n : Int)) (hn : n ≤ 1) :
    Calls Try.prog 78 #[.slice A n c, .int .i64 0, .int .i64 k, .int .i64 (m : Int)] w fun e w' => e = .returned (.tuple #[]) ∧ w = w' := by
  subst hk
  have hd2 : decide ((n : Int) ≤ 12) = true := by rw [decide_eq_true_eq]; omega
  go_enter Try.func78, Try.ntmps78
  go_wp2_with fail
  refine wp_loop_rounds 1 ?_
  rw [rounds_succ]
  go_wp2_with fail
  refine (ins_short A c n _ w rfl hn).mono ?_
  rintro e _ ⟨rfl, rfl⟩
  go_wp2_with fail
  (try simp only [Exit.inBlock, Exit.then]); refine bodyPost_ret (results_none rfl _ _ _) rfl ?_
  exact ⟨rfl, rfl⟩
theorem sort_short (n : Nat) (hn : n ≤ 1) : SortOk n := by
  intro A c base xs w hxs hlt hown hb
  have hs : sortN xs = xs := by
    rcases xs with _ | ⟨x, _ | ⟨y, r⟩⟩
    · simp [sortN]
    · simp [sortN]
    · simp at hxs; omega
  rw [hs]
  go_enter Try.func50, Try.ntmps50
  go_wp2_with fail
  refine (len_any n _ w rfl (by omega)).mono ?_
  rintro e _ ⟨rfl, rfl⟩
  go_wp2_with fail
  refine (pdq_short A c n _ _ w rfl hn).mono ?_
  rintro e _ ⟨rfl, rfl⟩
  go_wp2_with fail
  go_end0
  exact ⟨rfl, hown, gr_refl w⟩
end Go.Proofs.Ythaceagaodjllaa
