/- The writer of bits. No condition but that numbers are of their kinds. -/
import Derived.Test.YthaceagaodjllaaWriter
import Derived.Test.YthaceagaodjllaaBits
namespace Go.Proofs.Ythaceagaodjllaa
open Go.RowKit

/-- The writer at block g: the bits that were put; its row lies from block B on. -/
structure Bwr (w : World) (B g : Nat) (bs : List Bool) : Prop where
  ex : ∃ A c, Row w g 123 [.slice A ((bs.length + 7) / 8) c, .int .i64 (bs.length : Int)] ∧ w.ownsRow B 5 1 (.slice A ((bs.length + 7) / 8) c) ((bs.length + 7) / 8) (u8s (pack bs))
  le : B ≤ g
theorem Bwr.lt {w : World} {B g : Nat} {bs : List Bool} (h : Bwr w B g bs) : g < w.heap.size := by
  obtain ⟨A, c, hr, _⟩ := h.ex
  exact hr.lt
theorem Bwr.up {w w' : World} {B g : Nat} {bs : List Bool} (h : Bwr w B g bs) (hb : Below w.heap.size w w') : Bwr w' B g bs := by
  obtain ⟨A, c, hr, ho⟩ := h.ex
  exact ⟨⟨A, c, hr.below hb hr.lt, own_up ho hb⟩, h.le⟩

set_option maxHeartbeats 400000 in
theorem new_any_b (w : World) : Calls Try.prog 47 #[] w fun e w' => e = .returned (.pointer (some ⟨w.heap.size, 0, none⟩)) ∧ Bwr w' w.heap.size w.heap.size [] ∧ Below w.heap.size w w' := by
  go_enter Try.func47, Try.ntmps47
  go_wp2
  go_ret
  exact ⟨rfl, ⟨⟨none, 0, Row.new _ _ _, World.ownsRow_nil _ _ _ _⟩, Nat.le_refl _⟩, by (repeat' (first | (with_reducible exact Below.refl _ _) | (with_reducible assumption) | (with_reducible refine Below.alloc ?_ ?_ _) | (with_reducible refine Below.drew ?_) | (with_reducible refine below_drewN ?_ _) | (with_reducible refine Below.setCell ?_ ?_ _) | (first | (with_reducible exact Nat.le_refl _) | (with_reducible assumption) | omega | (simp; omega) | (simp; done))))⟩

theorem own_get {w : World} {base n size : Nat} {e : TypeId} {A : Option Addr} {c : Nat} {xs : List Value} (h : w.ownsRow base e size (.slice A n c) n xs) (hn : 0 < n) :
    ∃ b, A = some ⟨b, 0, none⟩ ∧ base ≤ b ∧ b < w.heap.size := by
  rcases h.2 with ⟨h', h2⟩ | ⟨g, cap, cur, hv, hb, hg, _⟩
  · omega
  · injection hv with hA
    refine ⟨g, hA, hb, ?_⟩
    rcases Nat.lt_or_ge g w.heap.size with hlt | hge
    · exact hlt
    · rw [Array.getElem?_eq_none hge] at hg; cases hg
theorem and64_one (n : Nat) (hn : n < 18446744073709551616) : bits .and .u64 (n : Int) 1 = ((n % 2 : Nat) : Int) := by
  have h := (bits_nat .u64 64 (by decide) (fun n h0 h1 => by rw [IntKind.wrap_u64]; omega) n 1 (by omega) (by omega)).1
  rw [Nat.and_one_is_mod] at h
  exact h
theorem or8_nat (x y : Nat) (hx : x < 256) (hy : y < 256) : bits .or .u8 (x : Int) (y : Int) = ((x ||| y : Nat) : Int) :=
  (bits_nat .u8 8 (by decide) (fun n h0 h1 => by rw [IntKind.wrap_u8]; omega) x y (by omega) (by omega)).2

theorem put_bit (bs : List Bool) (n : Nat) (hn : n < 18446744073709551616) :
    bits .or .u8 ((byteN bs (bs.length / 8) : Nat) : Int) (bits .and .u64 (n : Int) 1 % 256 * 2 ^ (7 - bs.length % 8) % 256) =
      ((UInt8.ofNat (byteN bs (bs.length / 8) + (decide (n % 2 = 1)).toNat * 2 ^ (7 - bs.length % 8))).toNat : Int) := by
  have hb := byteN_lt bs (bs.length / 8)
  have hh := byteN_high bs
  have hr : bs.length % 8 < 8 := Nat.mod_lt _ (by decide)
  rw [and64_one n hn]
  generalize byteN bs (bs.length / 8) = y at *
  generalize bs.length % 8 = r at *
  have e : (decide (n % 2 = 1)).toNat = n % 2 := by
    have : n % 2 = 0 ∨ n % 2 = 1 := by omega
    rcases this with h | h <;> simp [h]
  rw [e]
  have h2 : n % 2 ≤ 1 := by omega
  generalize n % 2 = b at *
  have hp : b * 2 ^ (7 - r) < 256 := by
    calc b * 2 ^ (7 - r) ≤ 1 * 2 ^ 7 := Nat.mul_le_mul h2 (Nat.pow_le_pow_right (by decide) (by omega))
      _ < 256 := by decide
  have hor := or8_add y b r hr h2 hb hh
  have hlt : y ||| b * 2 ^ (7 - r) < 2 ^ 8 := Nat.or_lt_two_pow hb hp
  have e2 : (b : Int) % 256 * 2 ^ (7 - r) % 256 = ((b * 2 ^ (7 - r) : Nat) : Int) := by
    rw [show (b : Int) % 256 = (b : Int) by omega]
    have : ((b * 2 ^ (7 - r) : Nat) : Int) = (b : Int) * 2 ^ (7 - r) := by simp
    rw [← this]
    omega
  rw [e2, or8_nat _ _ hb hp, hor, UInt8.toNat_ofNat_of_lt' (by rw [← hor]; exact hlt)]

set_option maxRecDepth 20000 in
set_option maxHeartbeats 2000000 in
theorem one_any_b (B g : Nat) (bs : List Bool) (n : Nat) (x : Int) (w : World) (hw : Bwr w B g bs) (hbs : bs.length ≤ 1099511627776) (hx : x = (n : Int)) (hn : n < 18446744073709551616) :
    Calls Try.prog 88 #[.pointer (some ⟨g, 0, none⟩), .int .u64 x] w fun e w' => e = .returned (.tuple #[]) ∧ Bwr w' B g (bs ++ [decide (n % 2 = 1)]) ∧ Below B w w' := by
  subst hx
  obtain ⟨A, c, hrow, hown⟩ := hw.ex
  have hle := hw.le
  have hlt := hrow.lt
  have hc := hrow.cell
  have hf := hrow.frozen
  by_cases h8 : bs.length % 8 = 0
  · have h8' : ((bs.length : Int) % 8 == 0) = true := by rw [beq_iff_eq]; omega
    have hownA : (w.alloc (.cells #[.int .u8 0] 5)).ownsRow B 5 1 (.slice A ((bs.length + 7) / 8) c) ((bs.length + 7) / 8) (u8s (pack bs)) := own_up hown (by (repeat' (first | (with_reducible exact Below.refl _ _) | (with_reducible assumption) | (with_reducible refine Below.alloc ?_ ?_ _) | (with_reducible refine Below.drew ?_) | (with_reducible refine below_drewN ?_ _) | (with_reducible refine Below.setCell ?_ ?_ _) | (first | (with_reducible exact Nat.le_refl _) | (with_reducible assumption) | omega | (simp; omega) | (simp; done)))))
    have hrowA := hrow.alloc (.cells #[.int .u8 0] 5)
    go_enter Try.func88, Try.ntmps88
    go_wp2_with (at_builtin; refine wpList_app el_u8 rfl (.tmp 14) (.tmp 15) rfl rfl hownA rfl (rd_one _ _ _) rfl (one_int _ _) (by unfold maxLen; omega) (by omega) (by simp; omega) ?_; intro A2 c2 w2 hown4 hg4 hat4; have hrow4 := hrowA.grown hg4 (Ne.symm (row_own_ne hrowA hownA (by decide))); have hc4 := hrow4.cell; have hf4 := hrow4.frozen)
    obtain ⟨b, rfl, hb1, hb2⟩ := own_get hown4 (by omega)
    obtain ⟨L, hL, hLn⟩ : ∃ L, L = pack bs ++ [0] ∧ L.length = bs.length / 8 + 1 := ⟨_, rfl, by simp; omega⟩
    have hLp : (if bs.length % 8 = 0 then pack bs ++ [0] else pack bs) = L := by simp [h8, hL]
    have hLy : (u8s L)[bs.length / 8]? = some (.int .u8 (byteN bs (bs.length / 8) : Nat)) := by
      rw [hL, byteN_nil bs h8, u8s_append, List.getElem?_append_right (by simp; omega), u8s_length, pack_length, show bs.length / 8 - (bs.length + 7) / 8 = 0 by omega]
      rfl
    refine absw (fun wX => Row wX g 123 [.slice (some ⟨b, 0, none⟩) L.length c2, .int .i64 (bs.length : Int)] ∧ wX.ownsRow B 5 1 (.slice (some ⟨b, 0, none⟩) L.length c2) L.length (u8s L) ∧ Below B w wX) ?_ ?_
    · have e : (bs.length + 7) / 8 + 1 = L.length := by omega
      rw [e] at hown4 ⊢
      refine ⟨by ((repeat' (first | (with_reducible assumption) | (with_reducible apply Row.set_eq) | ((with_reducible apply Row.far); rotate_left; focus (first | (simp; done) | (simp; omega) | omega)) | (with_reducible apply Row.drew) | (with_reducible apply Row.drewN) | (with_reducible apply Row.alloc))) <;> rfl), ?_, ?_⟩
      · have eu : u8s L = u8s (pack bs) ++ [.int .u8 0] := by rw [hL, u8s_append]; rfl
        rw [eu]
        exact hown4.kept (gr_set w2 0 _) (.inr (row_own_ne hrow4 hown4 (by decide)))
      · refine (Below.trans ?_ (grown_below hownA hg4 (Nat.le_refl _) (by simp; omega))).setCell (by simpa using hle) _
        exact (Below.refl _ _).alloc (by omega) _
    have eL : (bs.length + 7) / 8 + 1 = L.length := by omega
    rw [eL]
    rintro wA ⟨hrowA', hownA', hbA⟩
    clear hownA hrowA hown4 hg4 hat4 hrow4 hc4 hf4
    rename Row wA _ _ _ => hrowA
    rename World.ownsRow wA _ _ _ _ _ _ => hownA
    generalize c2 = cA at *
    have hcg : ∀ p i, (grw wA p).cell? ⟨g, i, none⟩ = [Value.slice (some ⟨b, 0, none⟩) L.length cA, .int .i64 (bs.length : Int)][i]? := fun p => (hrowA.grw p).cell
    have hcb : ∀ p, (grw wA p).cell? ⟨b, bs.length / 8, none⟩ = some (.int .u8 (byteN bs (bs.length / 8) : Nat)) := fun p => by
      rw [(own_grw hownA p).cellAt _ (by omega)]
      exact hLy
    have hfb : ∀ p, (grw wA p).frozen? ⟨b, bs.length / 8, none⟩ = false := fun p => (own_grw hownA p).frozenAt _
    have hi1 : (0 : Int) ≤ (bs.length : Int) / 8 := by omega
    have hi2 : (bs.length : Int) / 8 < (L.length : Int) := by omega
    have hi3 : ((bs.length : Int) / 8).toNat = bs.length / 8 := by omega
    have hi4 : (0 : Int) ≤ 7 - (bs.length : Int) % 8 := by omega
    have hi5 : (7 - (bs.length : Int) % 8).toNat = 7 - bs.length % 8 := by omega
    have hne : b ≠ g := fun e => row_own_ne hrowA hownA (by decide) (by rw [e]; rfl)
    have H8 := Lib.hid h8
    have HN := Lib.hid hn
    have HL1 : Hid ((bs.length + 1 + 7) / 8 = L.length) := Lib.hid (by omega)
    have HLP := Lib.hid hLp
    clear h8 hc hf h8' hL hLp hLn eL hLy
    refine wp_region_grw_tail 23 (by kernel_rfl) (by kernel_rfl) ?_
    simp only [List.take_succ_cons, List.take_zero, List.drop_succ_cons, List.drop_zero]
    repeat (go_big_quiet_step (fail))
    refine wpQuiet_nil ?_
    rintro _ ⟨p, rfl⟩
    have hfr := (hrowA.grw p).frozen
    go_wp2_with fail
    go_end0
    have hl1 := HL1.out
    have hLp := HLP.out
    refine ⟨rfl, ⟨⟨some ⟨b, 0, none⟩, cA, ?_, ?_⟩, hle⟩, ?_⟩
    · rw [List.length_append, List.length_singleton, hl1]
      exact (((hrowA.grw p).far (Ne.symm hne) _).set 1 _)
    · rw [List.length_append, List.length_singleton, hl1, pack_snoc, hLp, put_bit bs n HN.out]
      have h := ((own_grw hownA p).stored (bs.length / 8) (.int .u8 ((UInt8.ofNat (byteN bs (bs.length / 8) + (decide (n % 2 = 1)).toNat * 2 ^ (7 - bs.length % 8))).toNat : Int))).1
      rw [show u8s (L.set (bs.length / 8) _) = (u8s L).set (bs.length / 8) _ from List.map_set ..]
      refine h.kept (gr_set _ 1 _) (.inr ?_)
      intro e
      exact hne (by injection e)
    · have := hb1
      refine ((bgrw hbA (by have := (hrowA).lt; omega) p).setCell hb1 _).setCell hle _
  · have h8' : ((bs.length : Int) % 8 == 0) = false := by rw [beq_eq_false_iff_ne]; omega
    obtain ⟨b, rfl, hb1, hb2⟩ := own_get hown (by omega)
    obtain ⟨L, hL, hLn⟩ : ∃ L, L = pack bs ∧ L.length = bs.length / 8 + 1 := ⟨_, rfl, by simp; omega⟩
    have hLp : (if bs.length % 8 = 0 then pack bs ++ [0] else pack bs) = L := by simp [h8, hL]
    have hLy : (u8s L)[bs.length / 8]? = some (.int .u8 (byteN bs (bs.length / 8) : Nat)) := by
      rw [hL]
      simp only [u8s, pack, List.map_map]
      rw [List.getElem?_map, List.getElem?_range (by omega)]
      simp only [Option.map_some, Function.comp]
      rw [UInt8.toNat_ofNat_of_lt' (byteN_lt _ _)]
    go_enter Try.func88, Try.ntmps88
    go_wp2_with fail
    have eL : (bs.length + 7) / 8 = L.length := by omega
    rw [eL] at hrow hown
    refine absw (fun wX => Row wX g 123 [.slice (some ⟨b, 0, none⟩) L.length c, .int .i64 (bs.length : Int)] ∧ wX.ownsRow B 5 1 (.slice (some ⟨b, 0, none⟩) L.length c) L.length (u8s L) ∧ Below B w wX) ?_ ?_
    · have eu : u8s L = u8s (pack bs) := by rw [hL]
      rw [eu]
      exact ⟨hrow, hown, Below.refl _ _⟩
    rintro wA ⟨hrowA, hownA, hbA⟩
    generalize c = cA at *
    have hcg : ∀ p i, (grw wA p).cell? ⟨g, i, none⟩ = [Value.slice (some ⟨b, 0, none⟩) L.length cA, .int .i64 (bs.length : Int)][i]? := fun p => (hrowA.grw p).cell
    have hcb : ∀ p, (grw wA p).cell? ⟨b, bs.length / 8, none⟩ = some (.int .u8 (byteN bs (bs.length / 8) : Nat)) := fun p => by
      rw [(own_grw hownA p).cellAt _ (by omega)]
      exact hLy
    have hfb : ∀ p, (grw wA p).frozen? ⟨b, bs.length / 8, none⟩ = false := fun p => (own_grw hownA p).frozenAt _
    have hi1 : (0 : Int) ≤ (bs.length : Int) / 8 := by omega
    have hi2 : (bs.length : Int) / 8 < (L.length : Int) := by omega
    have hi3 : ((bs.length : Int) / 8).toNat = bs.length / 8 := by omega
    have hi4 : (0 : Int) ≤ 7 - (bs.length : Int) % 8 := by omega
    have hi5 : (7 - (bs.length : Int) % 8).toNat = 7 - bs.length % 8 := by omega
    have hne : b ≠ g := fun e => row_own_ne hrowA hownA (by decide) (by rw [e]; rfl)
    have H8 := Lib.hid h8
    have HN := Lib.hid hn
    have HL1 : Hid ((bs.length + 1 + 7) / 8 = L.length) := Lib.hid (by omega)
    have HLP := Lib.hid hLp
    clear h8 hc hf h8' hL hLp hLn eL hLy
    refine wp_region_grw_tail 23 (by kernel_rfl) (by kernel_rfl) ?_
    simp only [List.take_succ_cons, List.take_zero, List.drop_succ_cons, List.drop_zero]
    repeat (go_big_quiet_step (fail))
    refine wpQuiet_nil ?_
    rintro _ ⟨p, rfl⟩
    have hfr := (hrowA.grw p).frozen
    go_wp2_with fail
    go_end0
    have hl1 := HL1.out
    have hLp := HLP.out
    refine ⟨rfl, ⟨⟨some ⟨b, 0, none⟩, cA, ?_, ?_⟩, hle⟩, ?_⟩
    · rw [List.length_append, List.length_singleton, hl1]
      exact (((hrowA.grw p).far (Ne.symm hne) _).set 1 _)
    · rw [List.length_append, List.length_singleton, hl1, pack_snoc, hLp, put_bit bs n HN.out]
      have h := ((own_grw hownA p).stored (bs.length / 8) (.int .u8 ((UInt8.ofNat (byteN bs (bs.length / 8) + (decide (n % 2 = 1)).toNat * 2 ^ (7 - bs.length % 8))).toNat : Int))).1
      rw [show u8s (L.set (bs.length / 8) _) = (u8s L).set (bs.length / 8) _ from List.map_set ..]
      refine h.kept (gr_set _ 1 _) (.inr ?_)
      intro e
      exact hne (by injection e)
    · have := hb1
      refine ((bgrw hbA (by have := (hrowA).lt; omega) p).setCell hb1 _).setCell hle _

set_option maxHeartbeats 1000000 in
theorem put_any_b (B g : Nat) (bs : List Bool) (n k : Nat) (x y : Int) (w : World) (hw : Bwr w B g bs) (hbs : bs.length ≤ 1099511627000) (hx : x = (n : Int)) (hy : y = (k : Int)) (hn : n < 18446744073709551616) (hk : k ≤ 64) :
    Calls Try.prog 77 #[.pointer (some ⟨g, 0, none⟩), .int .u64 x, .int .i64 y] w fun e w' => e = .returned (.tuple #[]) ∧ Bwr w' B g (bs ++ nbits n k) ∧ Below B w w' := by
  subst hx hy
  go_enter Try.func77, Try.ntmps77
  go_wp2_with fail
  go_loopg [6] k (fun m i wx => m ≤ k ∧ i = .int .i64 ((m : Int) - 1) ∧ Bwr wx B g (bs ++ nbits (n / 2 ^ m) (k - m)) ∧ Below B w wx)
  case atStart => exact ⟨by omega, rfl, by simpa [nbits] using hw, Below.refl _ _⟩
  case round =>
    obtain ⟨hm, rfl, hbw, hbr⟩ := hrel
    rcases Nat.eq_zero_or_pos gk with h0 | h0
    · subst h0
      go_wp2_with fail
      go_end0
      rw [Nat.pow_zero, Nat.div_one] at hbw
      exact ⟨rfl, hbw, hbr⟩
    · have e1 : ((gk : Int) - 1).toNat = gk - 1 := by omega
      have hlen : (bs ++ nbits (n / 2 ^ gk) (k - gk)).length ≤ 1099511627776 := by simp; omega
      have hd : n / 2 ^ (gk - 1) < 18446744073709551616 := Nat.lt_of_le_of_lt (Nat.div_le_self _ _) hn
      have HL := Lib.hid hlen
      have HD := Lib.hid hd
      have HN := Lib.hid hn
      have HS := Lib.hid hbs
      clear hlen hd hn hbs
      go_wp2_with fail
      refine (one_any_b B g _ (n / 2 ^ (gk - 1)) _ wr hbw HL.out (by simp) HD.out).mono ?_
      rintro e w2 ⟨rfl, hbw2, hb2⟩
      go_wp2_with fail
      go_roundg (gk - 1)
      case measure => omega
      case rel =>
        refine ⟨by omega, int_eq (by omega), ?_, hbr.trans hb2⟩
        have e2 : nbits (n / 2 ^ (gk - 1)) (k - (gk - 1)) = nbits (n / 2 ^ gk) (k - gk) ++ [decide (n / 2 ^ (gk - 1) % 2 = 1)] := by
          rw [show k - (gk - 1) = (k - gk) + 1 by omega, nbits, Nat.div_div_eq_div_mul, ← Nat.pow_succ, show (gk - 1).succ = gk by omega]
        rw [e2, ← List.append_assoc]
        exact hbw2

set_option maxHeartbeats 1000000 in
theorem ones_any_b (B g : Nat) (bs : List Bool) (k : Nat) (y : Int) (w : World) (hw : Bwr w B g bs) (hbs : bs.length ≤ 1099511500000) (hy : y = (k : Int)) (hk : decide ((k : Int) ≤ 65536) = true) :
    Calls Try.prog 76 #[.pointer (some ⟨g, 0, none⟩), .int .i64 y] w fun e w' => e = .returned (.tuple #[]) ∧ Bwr w' B g (bs ++ List.replicate k true) ∧ Below B w w' := by
  subst hy
  have hk' : k ≤ 65536 := by rw [decide_eq_true_eq] at hk; omega
  have hm : min (max (k : Int) 0) 65536 = (k : Int) := by omega
  have HK := Lib.hid hk'
  have HS := Lib.hid hbs
  clear hk' hbs
  go_enter Try.func76, Try.ntmps76
  go_wp2_with fail
  go_loopg [7] k (fun m i wx => m ≤ k ∧ i = .int .i64 ((k : Int) - (m : Int)) ∧ Bwr wx B g (bs ++ List.replicate (k - m) true) ∧ Below B w wx)
  case atStart => exact ⟨by omega, int_eq (by omega), by simpa using hw, Below.refl _ _⟩
  case round =>
    obtain ⟨hm, rfl, hbw, hbr⟩ := hrel
    rcases Nat.eq_zero_or_pos gk with h0 | h0
    · subst h0
      go_wp2_with fail
      go_end0
      exact ⟨rfl, hbw, hbr⟩
    · go_wp2_with fail
      refine (one_any_b B g _ 1 _ wr hbw (by have := HK.out; have := HS.out; simp; omega) rfl (by omega)).mono ?_
      rintro e w2 ⟨rfl, hbw2, hb2⟩
      go_wp2_with fail
      go_roundg (gk - 1)
      case measure => omega
      case rel =>
        refine ⟨by omega, int_eq (by omega), ?_, hbr.trans hb2⟩
        rw [show k - (gk - 1) = (k - gk) + 1 by omega, List.replicate_succ', ← List.append_assoc]
        exact hbw2

set_option maxHeartbeats 1000000 in
theorem bytes_any_b (B g : Nat) (bs : List Bool) (w : World) (hw : Bwr w B g bs) (hbs : bs.length ≤ 1099511627000) :
    Calls Try.prog 49 #[.pointer (some ⟨g, 0, none⟩)] w fun e w' => ∃ A c, e = .returned (.slice A ((bs.length + 7) / 8) c) ∧ w'.ownsRow w.heap.size 5 1 (.slice A ((bs.length + 7) / 8) c) ((bs.length + 7) / 8) (u8s (pack bs)) ∧ Below w.heap.size w w' := by
  obtain ⟨A, c, hrow, hown⟩ := hw.ex
  have hc := hrow.cell
  have hl : (pack bs).length = (bs.length + 7) / 8 := by simp
  go_enter Try.func49, Try.ntmps49
  go_wp2_with fail
  rw [← hl]
  refine (clone_any A c (pack bs) _ (own_rd hown) (by rw [hl]; omega)).mono ?_
  rintro e w1 ⟨A', c', rfl, hown2, hb⟩
  go_wp2_with fail
  go_ret
  refine ⟨_, _, rfl, ?_, hb⟩
  rw [hl] at hown2
  exact hown2
set_option maxHeartbeats 1000000 in
theorem bytes_any_w (B g : Nat) (bs : List UInt8) (w : World) (hw : Wtr w B g bs) (hbs : bs.length ≤ 1099511627776) :
    Calls Try.prog 25 #[.pointer (some ⟨g, 0, none⟩)] w fun e w' => ∃ A c, e = .returned (.slice A bs.length c) ∧ w'.ownsRow w.heap.size 5 1 (.slice A bs.length c) bs.length (u8s bs) ∧ Below w.heap.size w w' := by
  obtain ⟨A, c, hrow, hown⟩ := hw.ex
  have hc := hrow.cell
  go_enter Try.func25, Try.ntmps25
  go_wp2_with fail
  refine (clone_any A c bs _ (own_rd hown) hbs).mono ?_
  rintro e w1 ⟨A', c', rfl, hown2, hb⟩
  go_wp2_with fail
  go_ret
  exact ⟨_, _, rfl, hown2, hb⟩
end Go.Proofs.Ythaceagaodjllaa
