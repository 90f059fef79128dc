/- The reference's Steps (12): the program's. -/
import Derived.Test.YthaceagaodjllaaBits2
namespace Go.Proofs.Ythaceagaodjllaa
open Go.RowKit

theorem riceL_take_succ (ns : List Nat) (k : Nat) (h : k < ns.length) : riceL 0 (ns.take (k + 1)) = riceL 0 (ns.take k) ++ riceB (ns[k] - (ns.take k).getLastD 0) := by
  rw [take_snoc ns k h, riceL_append]
  simp [riceL]
theorem last_take (ns : List Nat) (k : Nat) (h : k < ns.length) : (ns.take (k + 1)).getLastD 0 = ns[k] := by
  rw [take_snoc ns k h, List.getLastD_concat]

set_option maxRecDepth 20000 in
set_option maxHeartbeats 1000000 in
theorem steps12_any (A : Option Addr) (c : Nat) (ns : List Nat) (w : World) (hrd : Rd w w.heap.size A (vnat ns)) (hr : risesFrom 0 ns) (hlt : ∀ x ∈ ns, x < 784931000) (hl : ns.length ≤ 1000) :
    Calls Try.prog 27 #[.int .i64 19, .slice A ns.length c] w fun e w' => e = .returned (.tuple #[.string (tx (pack (riceL 0 ns))), .int .i64 0]) ∧ Below w.heap.size w w' := by
  have HR := Lib.hid hr
  have HLT := Lib.hid hlt
  have HB : Hid (∀ k, k ≤ ns.length → (riceL 0 (ns.take k)).length ≤ 784951000) := Lib.hid (fun k hk => by
    have := riceL_length 0 (ns.take k) (risesFrom_take hr k) 784931000 (fun x hx => hlt x (List.mem_of_mem_take hx)) (by omega)
    rw [List.length_take] at this
    omega)
  clear hr hlt
  go_enter Try.func27, Try.ntmps27
  go_wp2_with fail
  go_loopg [6, 7] ns.length (fun m s i wx => ∃ k : Nat, m = ns.length - k ∧ k ≤ ns.length ∧ s = .string (tx (bt (riceL 0 (ns.take k)))) ∧ i = .int .i64 (k : Int) ∧ Below w.heap.size w wx)
  case atStart => exact ⟨0, by omega, by omega, rfl, rfl, Below.refl _ _⟩
  case round =>
    obtain ⟨k, rfl, hk, rfl, rfl, hbl⟩ := hrel
    by_cases hlt : k < ns.length
    · obtain ⟨b, off, rfl, _, _, hcell⟩ := (hrd.below hbl).at (k := k) (by simpa using hlt)
      rw [vnat_get _ _ hlt] at hcell
      have hk64 : k < ns.length := hlt
      have hbd := HLT.out ns[k] (List.getElem_mem hlt)
      have hT := riceL_take_succ ns k hlt
      have hlen := HB.out (k + 1) (by omega)
      rw [hT, List.length_append] at hlen
      have hge := risesFrom_get HR.out k hlt
      have hcat : ∀ wx, (Op.stringOp .add (tx (bt (riceL 0 (ns.take k)))) (tx (bt (riceB (ns[k] - (ns.take k).getLastD 0))))).run Try.prog wx = .ok (.string (tx (bt (riceL 0 (ns.take (k + 1)))))) wx := fun wx => by
        rw [run_string_add_sum wx _ _ (by simp only [tx_size, bt_length]; omega), tx_append, hT, bt_append]
      clear hT hlen
      by_cases h0 : k = 0
      · subst h0
        have hl0 : (ns.take 0).getLastD 0 = 0 := rfl
        rw [Nat.add_zero] at hcell
        rw [hl0, Nat.sub_zero] at hcat
        simp only [List.take_zero] at hcat
        clear hge hl0
        generalize ns[0] = a at *
        have hbits := fun wx => bits12_any a (a : Int) wx rfl (by omega)
        have HBITS := Lib.hid hbits
        clear hbits
        go_wp2_with fail
        refine (HBITS.out _).mono ?_
        rintro e w2 ⟨rfl, hb2⟩
        have hbl2 := hbl.trans (hb2.mono hbl.size)
        clear hbl hb2 hcell
        go_wp2_with fail
        go_roundg (ns.length - (0 + 1))
        case measure => omega
        case rel => exact ⟨0 + 1, rfl, by omega, rfl, rfl, hbl2⟩
      · obtain ⟨j, hj⟩ : ∃ j, k = j + 1 := ⟨k - 1, by omega⟩
        obtain ⟨b', off', e1, _, _, hcell2⟩ := (hrd.below hbl).at (k := j) (by simp; omega)
        injection e1 with e1
        injection e1 with e1 e2
        subst e1 e2
        rw [vnat_get _ _ (by omega)] at hcell2
        have hlast : (ns.take k).getLastD 0 = ns[j]'(by omega) := by
          subst hj
          exact last_take ns j (by omega)
        rw [hlast] at hcat hge
        have hxa : 0 ≤ (k : Int) - 1 := by omega
        have hxb : (k : Int) - 1 < (ns.length : Int) := by omega
        have hxc : ((k : Int) - 1).toNat = j := by omega
        have hxd : IntKind.i64.wrap ((k : Int) - 1) = (k : Int) - 1 := IntWalk.i64_in _ (by omega)
        have hk0 : decide (0 < (k : Int)) = true := by rw [decide_eq_true_eq]; omega
        clear hlast
        generalize ns[k] = a at *
        generalize (ns[j]'(by omega)) = b1 at *
        clear hj
        have hdl : decide ((a : Int) < (b1 : Int)) = false := by rw [decide_eq_false_iff_not]; omega
        have hbits := fun wx => bits12_any (a - b1) ((a : Int) - (b1 : Int)) wx (by omega) (by omega)
        have HBITS := Lib.hid hbits
        clear hbits
        go_wp2_with fail
        refine (HBITS.out _).mono ?_
        rintro e w2 ⟨rfl, hb2⟩
        have hbl2 := hbl.trans (hb2.mono hbl.size)
        clear hbl hb2 hcell hcell2
        go_wp2_with fail
        go_roundg (ns.length - (k + 1))
        case measure => omega
        case rel => exact ⟨k + 1, rfl, by omega, rfl, by go_num, hbl2⟩
    · obtain rfl : k = ns.length := by omega
      have hlen := HB.out ns.length (by omega)
      rw [List.take_length] at hlen ⊢
      go_wp2_with fail
      refine (bytes11_any (riceL 0 ns) _ (by omega)).mono ?_
      rintro e w2 ⟨rfl, hb2⟩
      go_wp2_with fail
      go_ret2
      exact ⟨rfl, hbl.trans (hb2.mono hbl.size)⟩
end Go.Proofs.Ythaceagaodjllaa
