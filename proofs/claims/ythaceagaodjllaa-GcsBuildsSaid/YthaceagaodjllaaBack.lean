/- The plain law: the numbers that were built in are read back. No program in sight. -/
import Derived.Test.YthaceagaodjllaaAny
namespace Go.Proofs.Ythaceagaodjllaa
open Go.RowKit

theorem pack_long (l : List Bool) (h : 8 ≤ l.length) : pack l = UInt8.ofNat (bval (l.take 8)) :: pack (l.drop 8) := by
  unfold pack
  rw [List.length_drop, show (l.length + 7) / 8 = (l.length - 8 + 7) / 8 + 1 by omega, List.range_succ_eq_map, List.map_cons, List.map_map]
  congr 1
  · unfold byteN
    rw [Nat.mul_zero, List.drop_zero, show 8 - (l.length - 0) = 0 by omega, Nat.pow_zero, Nat.mul_one]
  · refine List.map_congr_left fun i _ => ?_
    simp only [Function.comp]
    unfold byteN
    rw [List.drop_drop, List.length_drop, show 8 * Nat.succ i = 8 + 8 * i by omega, show l.length - 8 - 8 * i = l.length - (8 + 8 * i) by omega]
theorem pack_short (l : List Bool) (h : l.length < 8) (h0 : 0 < l.length) : pack l = [UInt8.ofNat (bval l * 2 ^ (8 - l.length))] := by
  unfold pack
  rw [show (l.length + 7) / 8 = 1 by omega]
  simp only [List.range_one, List.map_cons, List.map_nil]
  unfold byteN
  rw [Nat.mul_zero, List.drop_zero, Nat.sub_zero, List.take_of_length_le (by omega)]
theorem bval_falses (k : Nat) : bval (List.replicate k false) = 0 := by
  induction k with
  | zero => rfl
  | succ k ih => rw [List.replicate_succ', bval_snoc, ih]; rfl
theorem nbits_8 (l : List Bool) (h : l.length = 8) : nbits (UInt8.ofNat (bval l)).toNat 8 = l := by
  have hlt := bval_lt l
  rw [h] at hlt
  rw [UInt8.toNat_ofNat_of_lt' (by simpa [UInt8.size] using hlt)]
  have := nbits_bval l
  rwa [h] at this
theorem nbits_few (l : List Bool) (h : l.length < 8) : nbits (UInt8.ofNat (bval l * 2 ^ (8 - l.length))).toNat 8 = l ++ List.replicate (8 - l.length) false := by
  have e : bval (l ++ List.replicate (8 - l.length) false) = bval l * 2 ^ (8 - l.length) := by rw [bval_append, bval_falses, List.length_replicate, Nat.add_zero]
  rw [← e]
  exact nbits_8 _ (by simp; omega)
theorem unpack_pack (l : List Bool) : ∃ k, k < 8 ∧ unpack (pack l) = l ++ List.replicate k false ∧ (l = [] → k = 0) := by
  have H : ∀ n (l : List Bool), l.length ≤ n → ∃ k, k < 8 ∧ unpack (pack l) = l ++ List.replicate k false ∧ (l = [] → k = 0) := by
    intro n
    induction n with
    | zero =>
      intro l hl
      obtain rfl : l = [] := List.eq_nil_of_length_eq_zero (by omega)
      exact ⟨0, by omega, rfl, fun _ => rfl⟩
    | succ n ih =>
      intro l hl
      rcases Nat.lt_or_ge l.length 8 with h8 | h8
      · rcases Nat.eq_zero_or_pos l.length with h0 | h0
        · obtain rfl : l = [] := List.eq_nil_of_length_eq_zero (by omega)
          exact ⟨0, by omega, rfl, fun _ => rfl⟩
        · refine ⟨8 - l.length, by omega, ?_, fun e => by simp [e] at h0⟩
          rw [pack_short l h8 h0, unpack_cons, nbits_few l h8, unpack_nil, List.append_nil]
      · obtain ⟨k, hk, hu, hz⟩ := ih (l.drop 8) (by simp; omega)
        refine ⟨k, hk, ?_, fun e => by simp [e] at h8⟩
        rw [pack_long l h8, unpack_cons, nbits_8 _ (by simp; omega), hu, ← List.append_assoc, List.take_append_drop]
  exact H _ l (Nat.le_refl _)

theorem bOnes_rice (q : Nat) (r : List Bool) : bOnes (List.replicate q true ++ false :: r) = q := by
  induction q with
  | zero => simp [bOnes_cons]
  | succ q ih => rw [List.replicate_succ, List.cons_append, bOnes_cons, if_pos rfl, ih]
theorem bGet_parts (l : List UInt8) (at_ q : Nat) (m r : List Bool) (h : bleft l at_ = (List.replicate q true ++ [false] ++ m) ++ r) (hm : m.length = 19) (hq : q ≤ 65536) : bGet l at_ = (q * 524288 + bval m, at_ + (q + 20), 0) ∧ bleft l (at_ + (q + 20)) = r := by
  have h2 : bleft l (at_ + (q + 20)) = r := by rw [← bleft_drop, h, List.drop_left' (by simp; omega)]
  have hr : bleft l at_ = List.replicate q true ++ false :: (m ++ r) := by rw [h]; simp
  have ho : bOnes (bleft l at_) = q := by rw [hr, bOnes_rice]
  have hlen : (bleft l at_).length = q + 20 + r.length := by rw [h]; simp; omega
  have c1 : ¬ 65536 < bOnes (bleft l at_) := by omega
  have c2 : ¬ bOnes (bleft l at_) = (bleft l at_).length := by omega
  have hrun : bRun l at_ 65536 = (q, at_ + q + 1, 0) := by
    unfold bRun
    rw [if_neg c1, if_neg c2, ho]
  have h3 : bleft l (at_ + q + 1) = m ++ r := by
    rw [Nat.add_assoc, ← bleft_drop, hr, List.drop_append, List.length_replicate, List.drop_of_length_le (by simp), show q + 1 - q = 1 by omega]
    rfl
  have htake : bTake l (at_ + q + 1) 19 = (bval m, at_ + (q + 20), 0) := by
    unfold bTake
    rw [h3, if_neg (by simp; omega), List.take_left' hm, show at_ + q + 1 + 19 = at_ + (q + 20) by omega]
  refine ⟨?_, h2⟩
  unfold bGet
  rw [hrun]
  simp only
  rw [if_neg (by simp), htake]
  simp only
  rw [if_neg (by simp)]
theorem bGet_back (l : List UInt8) (at_ s : Nat) (r : List Bool) (h : bleft l at_ = riceB s ++ r) (hs : s < 34359738368) : bGet l at_ = (s, at_ + (riceB s).length, 0) ∧ bleft l (at_ + (riceB s).length) = r := by
  have h1 := bGet_parts l at_ (s / 524288) (nbits s 19) r h (by simp) (by omega)
  rw [bval_nbits, show (2 : Nat) ^ 19 = 524288 from rfl, show s / 524288 * 524288 + s % 524288 = s by omega, ← riceB_length] at h1
  exact h1
theorem vGo_back (l : List UInt8) (n : Nat) (ns : List Nat) (at_ last : Nat) (acc : List Nat) (z : List Bool) (h : bleft l at_ = riceL last ns ++ z) (hr : risesFrom last ns) (hn : n ≤ 1000) (hlt : ∀ x ∈ ns, x < 784931 * n) :
    vGo l n ns.length at_ last acc = (acc ++ ns, at_ + (riceL last ns).length, 0) ∧ bleft l (at_ + (riceL last ns).length) = z := by
  induction ns generalizing at_ last acc with
  | nil => simp [vGo, riceL, h]
  | cons x ns ih =>
    rw [riceL, List.append_assoc] at h
    have hx := hlt x (by simp)
    obtain ⟨hle, hrise⟩ := hr
    obtain ⟨h1, h2⟩ := bGet_back l at_ (x - last) _ h (by omega)
    obtain ⟨h3, h4⟩ := ih (at_ + (riceB (x - last)).length) x (acc ++ [x]) h2 hrise (fun y hy => hlt y (by simp [hy]))
    rw [List.length_cons, vGo, h1]
    simp only
    rw [if_neg (by simp), if_neg (by omega), show last + (x - last) = x by omega, h3, riceL, List.length_append, ← Nat.add_assoc]
    exact ⟨by simp, h4⟩
theorem varB_varT (n : Nat) (h : n < 65536) : varB n = varT n := by
  unfold varB varT
  by_cases h1 : n < 253
  · rw [if_pos h1, if_pos h1]
  · rw [if_neg h1, if_neg h1, if_pos (by omega), if_pos h]
    rfl
theorem leN_leB (n k : Nat) : leN (leB n k) = n % 256 ^ k := by
  induction k generalizing n with
  | zero => simp [leB, leN, Nat.mod_one]
  | succ k ih =>
    rw [leB, leN, ih, UInt8.toNat_ofNat_of_lt' (by simp [UInt8.size]; omega), Nat.pow_succ, Nat.mul_comm (256 ^ k), Nat.mod_mul]
theorem rVar_back (n : Nat) (r : List UInt8) (h : n ≤ 1000) : rVar (varB n ++ r) 0 0 1000 = (n, (varB n).length, 0) := by
  rw [← cnt_eq, varB_varT n (by omega)]
  by_cases h1 : n < 253
  · have e : varT n = [UInt8.ofNat n] := by
      unfold varT
      rw [if_pos h1]
      simp [leB]
      congr 1
      omega
    have hb : (UInt8.ofNat n).toNat = n := UInt8.toNat_ofNat_of_lt' (by simp [UInt8.size]; omega)
    have hw : cW (UInt8.ofNat n) = 0 := by
      have hne : ∀ c : UInt8, 253 ≤ c.toNat → UInt8.ofNat n ≠ c := fun c h1 e => by
        have := congrArg UInt8.toNat e
        rw [hb] at this
        omega
      unfold cW
      rw [if_neg (hne 253 (by decide)), if_neg (hne 254 (by decide)), if_neg (hne 255 (by decide))]
    have hn : leN [UInt8.ofNat n] = n := by simp [leN, hb]
    rw [e, List.cons_append, List.nil_append, cnt, hw, if_neg (by omega), cS, if_pos hw, hn, e, if_neg (by simp), if_neg (by omega)]
    rfl
  · have e : varT n = 253 :: leB n 2 := by
      unfold varT
      rw [if_neg h1, if_pos (by omega)]
    have hw : cW 253 = 2 := rfl
    have ht : (leB n 2 ++ r).take 2 = leB n 2 := List.take_left' (by simp)
    have hn : leN (leB n 2) = n := by rw [leN_leB]; omega
    have hcs : cS 253 (leB n 2 ++ r) = leB n 2 := by rw [cS, if_neg (by rw [hw]; decide), hw, ht]
    rw [e, List.cons_append, cnt, hcs, hw, ht, hn, e, if_neg (by simp), if_neg (by simp), if_neg (by omega)]
    rfl
/-- What was built is read back. -/
theorem vals_back (ns : List Nat) (hn : ns.length ≤ 1000) (hr : risesFrom 0 ns) (hlt : ∀ x ∈ ns, x < 784931 * ns.length) : vals (varB ns.length ++ pack (riceL 0 ns)) = (ns, 0) := by
  have hv := rVar_back ns.length (pack (riceL 0 ns)) hn
  have hrest : vRest (varB ns.length ++ pack (riceL 0 ns)) = pack (riceL 0 ns) := by
    rw [vRest_eq _ (by rw [hv]), hv]
    exact List.drop_left' rfl
  obtain ⟨k, hk, hu, hk0⟩ := unpack_pack (riceL 0 ns)
  have hb : bleft (pack (riceL 0 ns)) 0 = riceL 0 ns ++ List.replicate k false := by rw [bleft_zero, hu]
  obtain ⟨h1, h2⟩ := vGo_back _ ns.length ns 0 0 [] _ hb hr hn hlt
  unfold vals
  rw [hv]
  simp only
  rw [if_neg (by simp), hrest, h1]
  unfold vEnd
  simp only
  rw [if_neg (by simp), h2, if_neg]
  · simp
  · rintro (⟨h3, h4⟩ | h3)
    · have : ns = [] := List.eq_nil_of_length_eq_zero h3
      rw [hk0 (by rw [this]; rfl)] at h4
      simp at h4
    · simp [bClean, hk] at h3
theorem vals_build (k0 k1 : Int) (ls : List (List UInt8)) (h : (onceL ls).length ≤ 1000) : vals (buildL k0 k1 ls).1 = (numsL k0 k1 ls, 0) := by
  unfold buildL
  rw [if_neg (by omega)]
  simp only
  have hl := numsL_length k0 k1 ls
  have := vals_back (numsL k0 k1 ls) (by omega) (numsL_rises k0 k1 ls) (by rw [hl]; exact numsL_lt k0 k1 ls)
  rwa [hl] at this
/-- Each item is matched. -/
theorem match_build (k0 k1 : Int) (ls : List (List UInt8)) (h : (onceL ls).length ≤ 1000) (t : List UInt8) (ht : t ∈ ls) : itemN k0 k1 (784931 * (numsL k0 k1 ls).length) t ∈ numsL k0 k1 ls := by
  rw [numsL_length]
  unfold numsL
  rw [sortN_mem]
  exact List.mem_map.2 ⟨t, (mem_onceL ls t).2 ht, rfl⟩
theorem matchL_build (k0 k1 : Int) (ls : List (List UInt8)) (h : (onceL ls).length ≤ 1000) (t : List UInt8) (ht : t ∈ ls) : matchL k0 k1 (buildL k0 k1 ls).1 t = (true, 0) := by
  have hm := match_build k0 k1 ls h t ht
  have h1 : anyL k0 k1 (buildL k0 k1 ls).1 [t] = ([0], 0) := by
    unfold anyL
    rw [vals_build k0 k1 ls h]
    simp only
    rw [if_neg (by simp)]
    simp only [List.length_singleton]
    rw [anyTo_succ _ _ _ _ 0 (by simp)]
    simp [hm, anyTo]
  rw [matchL, h1]
  rfl
end Go.Proofs.Ythaceagaodjllaa
