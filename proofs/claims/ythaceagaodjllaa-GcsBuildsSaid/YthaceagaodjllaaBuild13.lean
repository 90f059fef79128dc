/- The reference's Build (13): the program's. -/
import Derived.Test.YthaceagaodjllaaNum13
import Derived.Test.YthaceagaodjllaaSteps12
import Derived.Test.YthaceagaodjllaaMatches
namespace Go.Proofs.Ythaceagaodjllaa
open Go.RowKit

set_option maxRecDepth 20000 in
set_option maxHeartbeats 2000000 in
theorem build13_any (k0 k1 : Int) (A : Option Addr) (c : Nat) (ls : List (List UInt8)) (w : World) (hrd : Rd w w.heap.size A (strs ls)) (hl : ls.length ≤ 1000) (hts : ∀ t ∈ ls, t.length ≤ 65536) :
    Calls Try.prog 12 #[.agg #[.int .u64 k0, .int .u64 k1], .slice A ls.length c] w fun e w' => e = .returned (.string (tx (buildL k0 k1 ls).1)) ∧ Below w.heap.size w w' := by
  have hol := onceL_length ls
  have hbA : Below w.heap.size w (w.alloc (.cells #[.int .u64 k0, .int .u64 k1] 23)) := by (repeat' (first | (with_reducible exact Below.refl _ _) | (with_reducible assumption) | (with_reducible refine Below.alloc ?_ ?_ _) | (with_reducible refine Below.drew ?_) | (with_reducible refine below_drewN ?_ _) | (with_reducible refine Below.setCell ?_ ?_ _) | (first | (with_reducible exact Nat.le_refl _) | (with_reducible assumption) | omega | (simp; omega) | (simp; done))))
  have hrowA : Row (w.alloc (.cells #[.int .u64 k0, .int .u64 k1] 23)) w.heap.size 23 [.int .u64 k0, .int .u64 k1] := Row.new w _ [.int .u64 k0, .int .u64 k1]
  have hnum := numbers13_any k0 k1 A c ls (w.alloc (.cells #[.int .u64 k0, .int .u64 k1] 23)) ((hrd.below hbA).more (by simp)) (by omega) hts
  have hnl := numsL_length k0 k1 ls
  have hsteps : ∀ A1 c1 w1, Rd w1 w1.heap.size A1 (vnat (numsL k0 k1 ls)) → Calls Try.prog 27 #[.int .i64 19, .slice A1 (onceL ls).length c1] w1 fun e w' => e = .returned (.tuple #[.string (tx (pack (riceL 0 (numsL k0 k1 ls)))), .int .i64 0]) ∧ Below w1.heap.size w1 w' := fun A1 c1 w1 h => by
    have h2 := steps12_any A1 c1 (numsL k0 k1 ls) w1 h (numsL_rises k0 k1 ls) (fun x hx => by have := numsL_lt k0 k1 ls x hx; omega) (by omega)
    rwa [hnl] at h2
  have HR := Lib.hid (riceL_numsL k0 k1 ls (by omega))
  have HB : Hid ((buildL k0 k1 ls).1 = varT (onceL ls).length ++ pack (riceL 0 (numsL k0 k1 ls))) := Lib.hid (by
    unfold buildL
    rw [if_neg (by omega)]
    simp only
    rw [varB_varT _ (by omega)])
  have hvl : (varT (onceL ls).length).length ≤ 9 := by
    rw [← varB_varT _ (by omega)]
    exact varB_length _
  have hpl : (pack (riceL 0 (numsL k0 k1 ls))).length ≤ 98118876 := by
    have := HR.out
    rw [pack_length]
    omega
  have HNUM := Lib.hid hnum
  have HS := Lib.hid hsteps
  clear hnum hsteps hts HR
  rw [HB.out]
  have hcat : ∀ wx, (Op.stringOp .add (tx (varT (onceL ls).length)) (tx (pack (riceL 0 (numsL k0 k1 ls))))).run Try.prog wx = .ok (.string (tx (varT (onceL ls).length ++ pack (riceL 0 (numsL k0 k1 ls))))) wx := fun wx => by
    rw [run_string_add_sum wx _ _ (by simp only [tx_size]; omega), tx_append]
  generalize numsL k0 k1 ls = ns at *
  generalize (onceL ls).length = n at *
  clear hvl hpl HB
  go_enter Try.func12, Try.ntmps12
  have hcr := hrowA.cell
  go_wp2_with fail
  refine HNUM.out.mono ?_
  rintro e w1 ⟨A1, c1, rfl, hown1, hb1⟩
  have hbl1 := hbA.trans (hb1.mono hbA.size)
  clear hrowA hbA hb1 HNUM hcr
  go_wp2_with fail
  refine (HS.out A1 c1 w1 (own_rd hown1)).mono ?_
  rintro e w2 ⟨rfl, hb2⟩
  have hbl2 := hbl1.trans (hb2.mono hbl1.size)
  go_wp2_with fail
  refine (var06_any n _ _ rfl (by omega)).mono ?_
  rintro e w3 ⟨rfl, hb3⟩
  go_wp2_with fail
  go_ret
  exact ⟨rfl, hbl2.trans (hb3.mono hbl2.size)⟩
end Go.Proofs.Ythaceagaodjllaa
