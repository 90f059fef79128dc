/- The walks of the keyed sum (sip) of the program: what each function computes. No condition. -/
import Derived.Test.YthaceagaodjllaaOctet
namespace Go.Proofs.Ythaceagaodjllaa
open Go.RowKit

def rl (x k : Int) : Int := bits BinOp.or IntKind.u64 (IntKind.u64.wrap (x * 2 ^ k.toNat)) (x / 2 ^ (64 - k).toNat)
def add64 (x y : Int) : Int := IntKind.u64.wrap (x + y)
def xor64 (x y : Int) : Int := bits BinOp.xor IntKind.u64 x y
def sipRound (a b c d : Int) : Int × Int × Int × Int :=
  let a := add64 a b
  let b := xor64 (rl b 13) a
  let a := rl a 32
  let c := add64 c d
  let d := xor64 (rl d 16) c
  let a := add64 a d
  let d := xor64 (rl d 21) a
  let c := add64 c b
  let b := xor64 (rl b 17) c
  let c := rl c 32
  (a, b, c, d)
def q4 (v : Int × Int × Int × Int) : Value := .agg #[.int .u64 v.1, .int .u64 v.2.1, .int .u64 v.2.2.1, .int .u64 v.2.2.2]
def sipR (v : Int × Int × Int × Int) : Int × Int × Int × Int := sipRound v.1 v.2.1 v.2.2.1 v.2.2.2
def sipTake (v : Int × Int × Int × Int) (m : Int) : Int × Int × Int × Int :=
  let v := sipR (sipR (v.1, v.2.1, v.2.2.1, xor64 v.2.2.2 m))
  (xor64 v.1 m, v.2.1, v.2.2.1, v.2.2.2)

theorem left64_any (x k : Int) (w : World) (hk : 0 < k) (hk' : k < 64) :
    Calls Try.prog 84 #[.int .u64 x, .int .i64 k] w fun e w' => e = .returned (.int .u64 (rl x k)) ∧ w = w' := by
  have H : Hid (k % 64 = k) := Int.emod_eq_of_lt (by omega) hk'
  go_enter Try.func84, Try.ntmps84
  go_wp2
  go_ret
  refine ⟨?_, rfl⟩
  simp only [rl]
  rw [← H.out]
  simp

set_option maxHeartbeats 400000 in
theorem round_any (a b c d : Int) (w : World) :
    Calls Try.prog 70 #[.agg #[.int .u64 a, .int .u64 b, .int .u64 c, .int .u64 d]] w fun e w' => e = .returned (q4 (sipRound a b c d)) ∧ Below w.heap.size w w' := by
  go_enter Try.func70, Try.ntmps70
  go_wp2_with fail
  go_quiet (fail)
  go_wp2_with (go_at_call 84; refine (left64_any _ _ _ (by omega) (by omega)).mono ?_; rintro e w' ⟨rfl, rfl⟩)
  refine bodyPost_ret (by simp [results, Try.results70, go_sem]; rfl) rfl ?_
  exact ⟨rfl, by (repeat' (first | (with_reducible exact Below.refl _ _) | (with_reducible assumption) | (with_reducible refine Below.alloc ?_ ?_ _) | (with_reducible refine Below.drew ?_) | (with_reducible refine below_drewN ?_ _) | (with_reducible refine Below.setCell ?_ ?_ _) | (first | (with_reducible exact Nat.le_refl _) | (with_reducible assumption) | omega | (simp; omega) | (simp; done))))⟩

set_option maxHeartbeats 400000 in
theorem take_any (a b c d m : Int) (w : World) :
    Calls Try.prog 68 #[.agg #[.int .u64 a, .int .u64 b, .int .u64 c, .int .u64 d], .int .u64 m] w fun e w' => e = .returned (q4 (sipTake (a, b, c, d) m)) ∧ Below w.heap.size w w' := by
  go_enter Try.func68, Try.ntmps68
  go_wp2_with fail
  refine (round_any _ _ _ _ _).mono ?_
  rintro e w1 ⟨rfl, hb1⟩
  generalize hR : sipRound a b c (bits BinOp.xor IntKind.u64 d m) = R
  obtain ⟨r1, r2, r3, r4⟩ := R
  have HR := Lib.hid hR
  clear hR
  simp only [q4]
  go_wp2_with fail
  refine (round_any _ _ _ _ _).mono ?_
  rintro e w2 ⟨rfl, hb2⟩
  generalize hR2 : sipRound r1 r2 r3 r4 = R
  obtain ⟨s1, s2, s3, s4⟩ := R
  have HR2 := Lib.hid hR2
  clear hR2
  simp only [q4]
  have hb := hb1.trans (hb2.mono hb1.size)
  clear hb1 hb2
  refine absw (fun x => Row x w.heap.size 115 [.int .u64 a, .int .u64 b, .int .u64 c, .int .u64 (bits BinOp.xor IntKind.u64 d m)] ∧ Row x (w.heap.size + 1) 115 [.int .u64 0, .int .u64 0, .int .u64 0, .int .u64 0] ∧ Below w.heap.size w x)
    ⟨Row.below (((Row.new w _ _).alloc _)) hb (by (first | (with_reducible exact Nat.le_refl _) | (with_reducible assumption) | omega | (simp; omega) | (simp; done))), Row.below (Row.new_eq (by simp)) hb (by (first | (with_reducible exact Nat.le_refl _) | (with_reducible assumption) | omega | (simp; omega) | (simp; done))), Below.trans (by (repeat' (first | (with_reducible exact Below.refl _ _) | (with_reducible assumption) | (with_reducible refine Below.alloc ?_ ?_ _) | (with_reducible refine Below.drew ?_) | (with_reducible refine below_drewN ?_ _) | (with_reducible refine Below.setCell ?_ ?_ _) | (first | (with_reducible exact Nat.le_refl _) | (with_reducible assumption) | omega | (simp; omega) | (simp; done))))) (hb.mono (by (first | (with_reducible exact Nat.le_refl _) | (with_reducible assumption) | omega | (simp; omega) | (simp; done))))⟩ ?_
  rintro w3 ⟨hr0, hr1, hb3⟩
  clear hb w2
  have hc0 := hr0.cell
  have hf0 := hr0.frozen
  have hc1 := hr1.cell
  have hf1 := hr1.frozen
  go_wp2_with fail
  refine bodyPost_ret (v := q4 (sipTake (a, b, c, d) m)) (by simp [results, Try.results68, go_sem, hc1]; simp [sipTake, sipR, xor64, HR.out, HR2.out, q4]) rfl ?_
  refine ⟨rfl, ?_⟩
  (repeat' (first | (with_reducible exact Below.refl _ _) | (with_reducible assumption) | (with_reducible refine Below.alloc ?_ ?_ _) | (with_reducible refine Below.drew ?_) | (with_reducible refine below_drewN ?_ _) | (with_reducible refine Below.setCell ?_ ?_ _) | (first | (with_reducible exact Nat.le_refl _) | (with_reducible assumption) | omega | (simp; omega) | (simp; done))))
end Go.Proofs.Ythaceagaodjllaa
