/- Numbers by their steps, as bits (rice), width 19. The numbers rise, and their steps are below 2^34. -/
import Derived.Test.YthaceagaodjllaaBitW
namespace Go.Proofs.Ythaceagaodjllaa
open Go.RowKit

def riceB (n : Nat) : List Bool := List.replicate (n / 524288) true ++ [false] ++ nbits n 19
/-- The steps of numbers from 'last' on. -/
def riceL : Nat → List Nat → List Bool
  | _, [] => []
  | last, n :: l => riceB (n - last) ++ riceL n l
theorem riceL_append (last : Nat) (l r : List Nat) : riceL last (l ++ r) = riceL last l ++ riceL (l.getLastD last) r := by
  induction l generalizing last with
  | nil => rfl
  | cons n l ih =>
    rw [List.cons_append, riceL, riceL, ih, List.append_assoc]
    cases l <;> simp [List.getLastD]

set_option maxHeartbeats 1000000 in
theorem held_any (w : World) : Calls Try.prog 58 #[.int .i64 19] w fun e w' => e = .returned (.int .i64 19) ∧ w = w' := by
  go_enter Try.func58, Try.ntmps58
  go_wp2
  go_ret
  exact ⟨rfl, rfl⟩
set_option maxHeartbeats 1000000 in
theorem put_any_rice (B g : Nat) (bs : List Bool) (n : Nat) (x : Int) (w : World) (hw : Bwr w B g bs) (hbs : bs.length ≤ 1099511000000) (hx : x = (n : Int)) (hn : n < 34359738368) :
    Calls Try.prog 48 #[.pointer (some ⟨g, 0, none⟩), .int .i64 19, .int .u64 x] w fun e w' => e = .returned (.int .i64 0) ∧ Bwr w' B g (bs ++ riceB n) ∧ Below B w w' := by
  subst hx
  have hq : decide ((n : Int) / 524288 ≤ 65536) = true := by rw [decide_eq_true_eq]; omega
  have hq2 : decide (65536 < (n : Int) / 524288) = false := by rw [decide_eq_false_iff_not]; omega
  have hq3 : (n : Int) / 524288 ≤ 65536 := by omega
  have HQ := Lib.hid hq
  have HN := Lib.hid hn
  have HS := Lib.hid hbs
  have HQ3 := Lib.hid hq3
  clear hq hn hbs hq3
  go_enter Try.func48, Try.ntmps48
  go_wp2_with fail
  refine (held_any _).mono ?_
  rintro e _ ⟨rfl, rfl⟩
  go_wp2_with fail
  have hQ := HN.out
  refine (ones_any_b B g bs (n / 524288) _ w hw (by have := HS.out; omega) (by rw [show wrap64 ((n : Int) / 524288) = (n : Int) / 524288 from by unfold wrap64; omega]; rfl) HQ.out).mono ?_
  rintro e w2 ⟨rfl, hw2, hb2⟩
  clear hQ
  go_wp2_with fail
  refine (put_any_b B g _ 0 1 _ _ w2 hw2 (by have := HS.out; have := HN.out; simp; omega) rfl rfl (by omega) (by omega)).mono ?_
  rintro e w3 ⟨rfl, hw3, hb3⟩
  go_wp2_with fail
  refine (put_any_b B g _ n 19 _ _ w3 hw3 (by have := HS.out; have := HN.out; simp; omega) rfl rfl (by have := HN.out; omega) (by omega)).mono ?_
  rintro e w4 ⟨rfl, hw4, hb4⟩
  go_wp2_with fail
  go_ret
  refine ⟨rfl, ?_, (hb2.trans hb3).trans hb4⟩
  rw [riceB, ← List.append_assoc, ← List.append_assoc]
  exact hw4

/-- Numbers that rise from 'last' on. -/
def risesFrom : Nat → List Nat → Prop
  | _, [] => True
  | last, n :: l => last ≤ n ∧ risesFrom n l
theorem risesFrom_get {last : Nat} {l : List Nat} (h : risesFrom last l) (k : Nat) (hk : k < l.length) : (l.take k).getLastD last ≤ l[k] := by
  induction l generalizing last k with
  | nil => simp at hk
  | cons n l ih =>
    cases k with
    | zero => exact h.1
    | succ k =>
      have := ih h.2 k (by simpa using hk)
      rw [List.take_succ_cons, List.getElem_cons_succ]
      have e : (n :: l.take k).getLastD last = (l.take k).getLastD n := by cases l.take k <;> simp [List.getLastD]
      rw [e]
      exact this
theorem risesFrom_take {last : Nat} {l : List Nat} (h : risesFrom last l) (k : Nat) : risesFrom last (l.take k) := by
  induction l generalizing last k with
  | nil => simpa using h
  | cons n l ih =>
    cases k with
    | zero => trivial
    | succ k => exact ⟨h.1, ih h.2 k⟩
def vnat (l : List Nat) : List Value := l.map fun (n : Nat) => .int .u64 (n : Int)
@[simp] theorem vnat_length (l : List Nat) : (vnat l).length = l.length := by simp [vnat]
theorem vnat_get (l : List Nat) (k : Nat) (h : k < l.length) : (vnat l)[k]'(by simpa using h) = .int .u64 (l[k] : Int) := by simp [vnat]

theorem riceB_length (n : Nat) : (riceB n).length = n / 524288 + 20 := by simp [riceB]
theorem riceL_length (last : Nat) (l : List Nat) (h : risesFrom last l) (m : Nat) (hm : ∀ x ∈ l, x < m) (hl : last ≤ m) : (riceL last l).length ≤ (m - last) + 20 * l.length := by
  induction l generalizing last with
  | nil => simp [riceL]
  | cons n l ih =>
    rw [riceL, List.length_append, riceB_length]
    have h1 := hm n (by simp)
    have h2 := ih n h.2 (fun x hx => hm x (by simp [hx])) (by omega)
    have h3 := h.1
    rw [List.length_cons]
    omega

set_option maxHeartbeats 1000000 in
theorem steps_any (A : Option Addr) (c : Nat) (l : List Nat) (w : World) (hrd : Rd w w.heap.size A (vnat l)) (hl : l.length ≤ 1073741824) (hr : risesFrom 0 l) (hm : ∀ x ∈ l, x < 34359738368) :
    Calls Try.prog 22 #[.int .i64 19, .slice A l.length c] w fun e w' => ∃ A' c', e = .returned (.tuple #[.slice A' (((riceL 0 l).length + 7) / 8) c', .int .i64 0]) ∧
      w'.ownsRow w.heap.size 5 1 (.slice A' (((riceL 0 l).length + 7) / 8) c') (((riceL 0 l).length + 7) / 8) (u8s (pack (riceL 0 l))) ∧ Below w.heap.size w w' := by
  go_enter Try.func22, Try.ntmps22
  go_wp2_with fail
  refine (new_any_b _).mono ?_
  rintro e w1 ⟨rfl, hw1, hb1⟩
  have hbits : ∀ k, (riceL 0 (l.take k)).length ≤ 1099510000000 := fun k => by
    have h := riceL_length 0 (l.take k) (risesFrom_take hr k) 34359738368 (fun x hx => hm x (List.mem_of_mem_take hx)) (by omega)
    have : (l.take k).length ≤ l.length := by simp; omega
    omega
  have HM := Lib.hid hm
  clear hm
  go_wp2_with fail
  have HB := Lib.hid hbits
  have HL := Lib.hid hl
  clear hbits
  go_loopg [7, 14] l.length (fun m s i wx => ∃ k, m = l.length - k ∧ k ≤ l.length ∧ s = .int .u64 ((l.take k).getLastD 0 : Nat) ∧ i = .int .i64 (k : Int) ∧ Bwr wx w.heap.size w.heap.size (riceL 0 (l.take k)) ∧ Below w.heap.size w wx)
  case atStart => exact ⟨0, by omega, by omega, rfl, rfl, by simpa [riceL] using hw1, hb1⟩
  case round =>
    obtain ⟨k, rfl, hk, rfl, rfl, hbw, hbr⟩ := hrel
    by_cases hlt : k < l.length
    · obtain ⟨b, off, rfl, hb1', hb2', hcell⟩ := (hrd.below hbr).at (k := k) (by simpa using hlt)
      rw [vnat_get _ _ hlt] at hcell
      have hx := HM.out l[k] (List.getElem_mem hlt)
      have hge := risesFrom_get hr k hlt
      have hsub : ((l[k] : Nat) : Int) - (((l.take k).getLastD 0 : Nat) : Int) = ((l[k] - (l.take k).getLastD 0 : Nat) : Int) := by omega
      have hnn : decide (((l[k] : Nat) : Int) < (((l.take k).getLastD 0 : Nat) : Int)) = false := by rw [decide_eq_false_iff_not]; omega
      have HR := Lib.hid hr
      have HT : Hid (l.take (k + 1) = l.take k ++ [l[k]]) := Lib.hid (take_snoc l k hlt)
      have HX : Hid (l[k] < 34359738368) := Lib.hid hx
      clear hx hr
      generalize l[k] = v at *
      generalize hs : (l.take k).getLastD 0 = s at *
      have HGE := Lib.hid hge
      have HSS := Lib.hid hs
      clear hs hge
      go_wp2_with fail
      have hbl := HB.out k
      refine (put_any_rice _ _ _ (v - s) _ wr hbw (by omega) (by rw [IntKind.wrap_u64]; have := HX.out; omega) (by have := HX.out; omega)).mono ?_
      rintro e w2 ⟨rfl, hbw2, hb2⟩
      clear hbl
      go_wp2_with fail
      go_roundg (l.length - (k + 1))
      case measure => omega
      case rel =>
        refine ⟨k + 1, rfl, by omega, ?_, by go_num, ?_, hbr.trans hb2⟩
        · rw [HT.out]; simp
        · rw [HT.out, riceL_append, HSS.out]
          simpa [riceL] using hbw2
    · obtain rfl : k = l.length := by omega
      rw [List.take_length] at hbw
      have hlb := HB.out l.length
      rw [List.take_length] at hlb
      go_wp2_with fail
      refine (bytes_any_b _ _ _ wr hbw (by omega)).mono ?_
      rintro e w2 ⟨A', c', rfl, hown2, hb2⟩
      go_wp2_with fail
      go_ret2
      exact ⟨_, _, rfl, own_base hown2 hbr.size, hbr.trans (hb2.mono hbr.size)⟩

end Go.Proofs.Ythaceagaodjllaa
