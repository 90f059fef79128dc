/- The reader of bytes (codec): what each of its methods computes, and what becomes of its state. Texts of up to 2^40 bytes. -/
import Derived.Test.YthaceagaodjllaaOctet
import Derived.Test.YthaceagaodjllaaApp
import Derived.Lib.SliceRun
import Derived.Deep.QuietTactic
namespace Go.Proofs.Ythaceagaodjllaa
open Go.RowKit

theorem el_u8 : Elem Try.prog 27 5 (.int .u8 0) 1 1 := ⟨Try.underlying27, by kernel_rfl, rfl, by decide⟩
section
variable {w w' w'' : World} {g : Nat}
theorem gr_trans {row : Option Nat} (h : w.grownBy w' row) (k : w'.grownBy w'' row) : w.grownBy w'' row :=
  ⟨k.os.trans h.os, k.tape.trans h.tape, k.output.trans h.output, Nat.le_trans h.size k.size, fun i hi hne => (k.block i (by have := h.size; omega) hne).trans (h.block i hi hne)⟩
theorem gr_below {row : Option Nat} (h : Below w.heap.size w w') : w.grownBy w' row := ⟨h.os, h.tape, h.output, h.size, fun i hi _ => h.block i hi⟩
theorem gr_set (w : World) (i : Nat) (u : Value) : w.grownBy (w.setCell ⟨g, i, none⟩ u) (some g) :=
  ⟨rfl, rfl, rfl, by simp, fun k _ hk => Below.heap_setCell _ _ _ _ (fun e => hk (by simp [e]))⟩
theorem gr_drewN {row : Option Nat} (w : World) (n : Nat) : w.grownBy (w.drewN n) row := gr_below (below_drewN (Below.refl _ _) n)
theorem gr_refl {row : Option Nat} (w : World) : w.grownBy w row := World.grownBy.refl w row
theorem below_gr {B : Nat} (h : w.grownBy w' (some g)) (hB : B ≤ g) (hg : g < w.heap.size) : Below B w w' := (Below.refl B w).grown h (by omega) fun k hk => by injection hk with hk; omega
theorem own_gr {base n size : Nat} {e : TypeId} {v : Value} {xs : List Value} (h : w.ownsRow base e size v n xs) (hg : w.grownBy w' (some g)) (hb : g < base) : w'.ownsRow base e size v n xs :=
  h.kept hg (by
    cases hv : v.ownBlock with
    | none => exact .inl rfl
    | some k => refine .inr fun e => ?_
                injection e with e
                have := (h.lt k hv).1
                omega)
end

theorem clone_any (A : Option Addr) (c : Nat) (l : List UInt8) (w : World) (hrd : Rd w w.heap.size A (u8s l)) (hl : l.length ≤ 1099511627776) :
    Calls Try.prog 51 #[.slice A l.length c] w fun e w' => ∃ A' c', e = .returned (.slice A' l.length c') ∧
      w'.ownsRow w.heap.size 5 1 (.slice A' l.length c') l.length (u8s l) ∧ Below w.heap.size w w' := by
  have heq := fun w => Lib.run_eql_slice_nil (P := Try.prog) w 27 5 A l.length c 0 0 Try.underlying27
  rcases A with _ | ad
  · have h0 : l = [] := by
      rcases Nat.eq_zero_or_pos l.length with h | h
      · exact List.eq_nil_of_length_eq_zero h
      · obtain ⟨b, off, e, _⟩ := hrd.out (by simpa using h)
        cases e
    subst h0
    clear heq
    have heq := fun w => Lib.run_eql_slice_nil (P := Try.prog) w 27 5 none 0 c 0 0 Try.underlying27
    rw [List.length_nil]
    go_enter Try.func51, Try.ntmps51
    go_wp2
    go_ret
    exact ⟨none, 0, rfl, World.ownsRow_nil _ _ _ _, Below.refl _ _⟩
  · have hown0 : (w.alloc (.cells #[] 5)).ownsRow w.heap.size 5 1 (.slice (some ⟨w.heap.size, 0, none⟩) 0 0) 0 [] := World.ownsRow_lit w #[] 0 (Nat.le_refl _) (by decide) rfl
    go_enter Try.func51, Try.ntmps51
    go_wp2_with (at_builtin; refine wpList_app el_u8 rfl (.tmp 5) (.tmp 6) rfl rfl hown0 rfl (hrd.alloc _) (by simp) (u8s_one l) (by unfold maxLen; omega) (by omega) (by simp) ?_; intro A1 c1 w1 hown1 hg1 hat1)
    go_ret
    simp only [Nat.zero_add, List.nil_append] at hown1
    exact ⟨A1, c1, by simp, hown1, ((Below.refl _ w).alloc (Nat.le_refl _) _).trans (grown_below hown0 hg1 (Nat.le_refl _) (by simp))⟩

/-- The reader at block g: its bytes, where it stands, its error. -/
structure Rdr (w : World) (g : Nat) (l : List UInt8) (at_ e : Nat) : Prop where
  ex : ∃ A c, Row w g 100 [.slice A l.length c, .int .i64 at_, .int .i64 e] ∧ Rd w g A (u8s l) ∧ l.length ≤ c ∧ c ≤ maxLen
theorem Rdr.lt {w : World} {g : Nat} {l : List UInt8} {at_ e : Nat} (h : Rdr w g l at_ e) : g < w.heap.size := by
  obtain ⟨A, c, hr, _⟩ := h.ex
  exact hr.lt
theorem Rdr.keep {w w' : World} {g : Nat} {l : List UInt8} {at_ e B : Nat} (h : Rdr w g l at_ e) (hb : Below B w w') (hg : g < B) : Rdr w' g l at_ e := by
  obtain ⟨A, c, hr, hd, h1, h2⟩ := h.ex
  exact ⟨A, c, hr.below hb hg, hd.below (hb.mono (by omega)), h1, h2⟩

set_option maxHeartbeats 400000 in
theorem of_any (A : Option Addr) (c : Nat) (l : List UInt8) (w : World) (hrd : Rd w w.heap.size A (u8s l)) (hl : l.length ≤ 1099511627776) :
    Calls Try.prog 29 #[.slice A l.length c] w fun e w' => ∃ g, e = .returned (.pointer (some ⟨g, 0, none⟩)) ∧ w.heap.size ≤ g ∧ Rdr w' g l 0 0 ∧ Below w.heap.size w w' := by
  go_enter Try.func29, Try.ntmps29
  go_wp2_with fail
  refine (clone_any A c l _ hrd hl).mono ?_
  rintro e w1 ⟨A', c', rfl, hown, hb⟩
  go_wp2_with fail
  go_ret
  have hcap := own_cap hown
  exact ⟨w1.heap.size, rfl, hb.size, ⟨A', c', Row.new _ _ _, (own_rd hown).alloc _, hcap.1, hcap.2⟩, hb.alloc hb.size _⟩
def rTake (l : List UInt8) (at_ e n : Nat) : List UInt8 × Nat × Nat :=
  if e ≠ 0 then ([], at_, e) else if l.length - at_ < n then ([], at_, 2) else ((l.drop at_).take n, at_ + n, 0)
def rNum (l : List UInt8) (at_ e n : Nat) : Nat × Nat × Nat := (leN (rTake l at_ e n).1, (rTake l at_ e n).2)

set_option maxHeartbeats 400000 in
theorem fail_any (g : Nat) (l : List UInt8) (at_ e : Nat) (from_ err : Int) (n m : Nat) (w : World) (hr : Rdr w g l at_ e) (hn : from_ = (n : Int)) (hm : err = (m : Int)) :
    Calls Try.prog 57 #[.pointer (some ⟨g, 0, none⟩), .int .i64 from_, .int .i64 err] w fun e' w' => e' = .returned (.tuple #[]) ∧ Rdr w' g l n (if e = 0 then m else e) ∧ w.grownBy w' (some g) := by
  subst hn hm
  obtain ⟨A, c, hrow, hrd, h1, h2⟩ := hr.ex
  have hc := hrow.cell
  have hf := hrow.frozen
  rcases Nat.eq_zero_or_pos e with h0 | h0
  · subst h0
    go_enter Try.func57, Try.ntmps57
    go_wp2
    go_end0
    refine ⟨rfl, ⟨A, c, ?_, (hrd.setCell (Nat.le_refl _) _).setCell (Nat.le_refl _) _, h1, h2⟩, gr_trans (gr_set _ _ _) (gr_set _ _ _)⟩
    ((repeat' (first | (with_reducible assumption) | (with_reducible apply Row.set_eq) | ((with_reducible apply Row.far); rotate_left; focus (first | (simp; done) | (simp; omega) | omega)) | (with_reducible apply Row.drew) | (with_reducible apply Row.drewN) | (with_reducible apply Row.alloc))) <;> rfl)
  · have hne : ((e : Int) == 0) = false := by rw [beq_eq_false_iff_ne]; omega
    go_enter Try.func57, Try.ntmps57
    go_wp2
    go_end0
    refine ⟨rfl, ⟨A, c, ?_, hrd.setCell (Nat.le_refl _) _, h1, h2⟩, gr_set _ _ _⟩
    ((repeat' (first | (with_reducible assumption) | (with_reducible apply Row.set_eq) | ((with_reducible apply Row.far); rotate_left; focus (first | (simp; done) | (simp; omega) | omega)) | (with_reducible apply Row.drew) | (with_reducible apply Row.drewN) | (with_reducible apply Row.alloc))) <;> rfl)
/-- What Take hands back, and what it leaves. -/
def TakePost (g : Nat) (l : List UInt8) (at_ e n : Nat) (w : World) (e' : Ending) (w' : World) : Prop :=
  ∃ A' c', e' = .returned (.slice A' (rTake l at_ e n).1.length c') ∧ w'.ownsRow w.heap.size 5 1 (.slice A' (rTake l at_ e n).1.length c') (rTake l at_ e n).1.length (u8s (rTake l at_ e n).1) ∧
    Rdr w' g l (rTake l at_ e n).2.1 (rTake l at_ e n).2.2 ∧ w.grownBy w' (some g)

set_option maxHeartbeats 400000 in
theorem take_any_r (g : Nat) (l : List UInt8) (at_ e n : Nat) (k : Int) (w : World) (hr : Rdr w g l at_ e) (hk : k = (n : Int)) (hn : n ≤ 1099511627776) (ha : at_ ≤ l.length) (hl : l.length ≤ 1099511627776) :
    Calls Try.prog 33 #[.pointer (some ⟨g, 0, none⟩), .int .i64 k] w (TakePost g l at_ e n w) := by
  subst hk
  have hr0 := hr
  obtain ⟨A, c, hrow, hrd, h1, h2⟩ := hr.ex
  unfold maxLen at h2
  have hc := hrow.cell
  have hf := hrow.frozen
  rcases Nat.eq_zero_or_pos e with h0 | h0
  · subst h0
    have hne : (((0 : Nat) : Int) != 0) = false := rfl
    by_cases hlt : l.length - at_ < n
    · have ht : rTake l at_ 0 n = ([], at_, 2) := by rw [rTake, if_neg (by simp), if_pos hlt]
      have HT := Lib.hid ht
      clear ht
      have hlt2 : (l.length : Int) - at_ < n := by omega
      go_enter Try.func33, Try.ntmps33
      go_wp2_with fail
      go_quiet (fail)
      go_wp2_with fail
      refine (fail_any g l at_ 0 _ _ at_ 2 _ ⟨A, c, hrow.drewN _, hrd.drewN _, h1, by unfold maxLen; omega⟩ rfl rfl).mono ?_
      rintro e w1 ⟨rfl, hr1, hg1⟩
      go_wp2_with fail
      go_ret
      unfold TakePost
      rw [HT.out]
      exact ⟨none, 0, rfl, World.ownsRow_nil _ _ _ _, hr1, gr_trans (gr_drewN _ _) hg1⟩
    · have ht : rTake l at_ 0 n = ((l.drop at_).take n, at_ + n, 0) := by rw [rTake, if_neg (by simp), if_neg hlt]
      have HT := Lib.hid ht
      clear ht
      have hle2 : (n : Int) ≤ (l.length : Int) - at_ := by omega
      have hglt := hrow.lt
      go_enter Try.func33, Try.ntmps33
      go_wp2_with fail
      go_quiet (fail)
      go_wp2_with fail
      refine absw (fun x => Row x g 100 [.slice A l.length c, .int .i64 ((at_ : Int) + n), .int .i64 ((0 : Nat) : Int)] ∧ Rd x g A (u8s l) ∧ w.grownBy x (some g) ∧ g < x.heap.size)
        ⟨?_, (hrd.drewN _).setCell (Nat.le_refl _) _, gr_trans (gr_drewN _ _) (gr_set _ _ _), by simpa using hglt⟩ ?_
      · have hrow2 := hrow.drewN nq
        ((repeat' (first | (with_reducible assumption) | (with_reducible apply Row.set_eq) | ((with_reducible apply Row.far); rotate_left; focus (first | (simp; done) | (simp; omega) | omega)) | (with_reducible apply Row.drew) | (with_reducible apply Row.drewN) | (with_reducible apply Row.alloc))) <;> rfl)
      clear hc hf hrow hrd hr hr0
      rintro w1 ⟨hrow, hrd, hg1, hgs⟩
      have hc : ∀ p i, (grw w1 p).cell? ⟨g, i, none⟩ = [Value.slice A l.length c, .int .i64 ((at_ : Int) + n), .int .i64 ((0 : Nat) : Int)][i]? := fun p => (hrow.grw p).cell
      refine wp_region_grw_tail 15 (by kernel_rfl) (by kernel_rfl) ?_
      simp only [List.take_succ_cons, List.take_zero, List.drop_succ_cons, List.drop_zero]
      repeat (go_big_quiet_step (fail))
      refine wpQuiet_nil ?_
      rintro _ ⟨p, rfl⟩
      clear hc
      have hlen : ((l.drop at_).take n).length = n := by simp; omega
      have hcl : ∀ A2 c2 x, Rd x x.heap.size A2 (u8s ((l.drop at_).take n)) → Calls Try.prog 51 #[.slice A2 n c2] x fun e w' => ∃ A' c', e = .returned (.slice A' n c') ∧
          w'.ownsRow x.heap.size 5 1 (.slice A' n c') n (u8s ((l.drop at_).take n)) ∧ Below x.heap.size x w' := fun A2 c2 x hx => by
        have h := clone_any A2 c2 ((l.drop at_).take n) x hx (by omega)
        rwa [hlen] at h
      have HC := Lib.hid hcl
      have HL := Lib.hid hlen
      clear hcl hlen
      go_wp2_with fail
      all_goals
        refine (HC.out _ _ _ ?_).mono ?_
        · first
            | (have h := ((hrd.grw p).cutm at_).take n
               rw [u8s_drop, u8s_take] at h
               exact h.top)
            | exact Rd.len0 (by simp; omega)
        · rintro e w2 ⟨A', c', rfl, hown, hb⟩
          go_wp2_with fail
          go_ret
          unfold TakePost
          rw [HT.out]
          have hb2 := (below_grw w1 p).trans (hb.mono (grw_size w1 p))
          refine ⟨A', c', ?_, ?_, ⟨A, c, ?_, ?_, h1, by unfold maxLen; omega⟩, gr_trans hg1 (gr_below hb2)⟩
          · exact ret_eq (slice_eq HL.out.symm)
          · show w2.ownsRow _ _ _ (.slice A' ((l.drop at_).take n).length c') ((l.drop at_).take n).length _
            rw [HL.out]
            exact own_base hown (Nat.le_trans hg1.size (grw_size w1 p))
          · exact hrow.below hb2 hgs
          · exact hrd.below (hb2.mono (by omega))
  · have hne : ((e : Int) != 0) = true := by rw [bne_iff_ne]; omega
    have ht : rTake l at_ e n = ([], at_, e) := by rw [rTake, if_pos (by omega)]
    have HT := Lib.hid ht
    clear ht
    go_enter Try.func33, Try.ntmps33
    go_wp2_with fail
    all_goals
      go_ret
      unfold TakePost
      rw [HT.out]
      exact ⟨none, 0, rfl, World.ownsRow_nil _ _ _ _, hr0, gr_refl _⟩
end Go.Proofs.Ythaceagaodjllaa
