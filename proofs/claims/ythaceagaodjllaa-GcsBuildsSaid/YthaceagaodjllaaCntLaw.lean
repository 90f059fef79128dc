/- The plain law: the reference's Count and the program's Var are one function. -/
import Derived.Test.YthaceagaodjllaaCount
namespace Go.Proofs.Ythaceagaodjllaa
open Go.RowKit

theorem varT_leN (s : List UInt8) (W : Nat) (hs : s.length = W) (b : UInt8) (hb : b = 253 ∧ W = 2 ∨ b = 254 ∧ W = 4 ∨ b = 255 ∧ W = 8) :
    varT (leN s) = b :: s ↔ (if b = 253 then 253 else if b = 254 then 65536 else 4294967296) ≤ leN s := by
  have hlt := leN_lt s
  have hle := leB_leN s
  have hlen : ∀ k, leB (leN s) k ≠ b :: s ∨ k = W + 1 := fun k => by
    by_cases h : k = W + 1
    · exact .inr h
    · left
      intro e
      have := congrArg List.length e
      simp [hs] at this
      omega
  have hcons : ∀ (c : UInt8) k, c :: leB (leN s) k = b :: s → k = W := fun c k e => by
    have := congrArg List.length e
    simp [hs] at this
    exact this
  rw [hs] at hlt hle
  rcases hb with ⟨rfl, rfl⟩ | ⟨rfl, rfl⟩ | ⟨rfl, rfl⟩
  · rw [if_pos rfl]
    unfold varT
    by_cases h1 : leN s < 253
    · rw [if_pos h1]
      exact ⟨fun e => by rcases hlen 1 with h | h; exact absurd e h; omega, fun h => by omega⟩
    · rw [if_neg h1, if_pos (by omega), hle]
      exact ⟨fun _ => by omega, fun _ => rfl⟩
  · rw [if_neg (by decide), if_pos rfl]
    unfold varT
    by_cases h1 : leN s < 253
    · rw [if_pos h1]
      exact ⟨fun e => by rcases hlen 1 with h | h; exact absurd e h; omega, fun h => by omega⟩
    · rw [if_neg h1]
      by_cases h2 : leN s < 65536
      · rw [if_pos h2]
        exact ⟨fun e => by have := hcons _ _ e; omega, fun h => by omega⟩
      · rw [if_neg h2, if_pos (by omega), hle]
        exact ⟨fun _ => by omega, fun _ => rfl⟩
  · rw [if_neg (by decide), if_neg (by decide)]
    unfold varT
    by_cases h1 : leN s < 253
    · rw [if_pos h1]
      exact ⟨fun e => by rcases hlen 1 with h | h; exact absurd e h; omega, fun h => by omega⟩
    · rw [if_neg h1]
      by_cases h2 : leN s < 65536
      · rw [if_pos h2]
        exact ⟨fun e => by have := hcons _ _ e; omega, fun h => by omega⟩
      · rw [if_neg h2]
        by_cases h3 : leN s < 4294967296
        · rw [if_pos h3]
          exact ⟨fun e => by have := hcons _ _ e; omega, fun h => by omega⟩
        · rw [if_neg h3, hle]
          exact ⟨fun _ => by omega, fun _ => rfl⟩

theorem cnt_wide (b : UInt8) (t : List UInt8) (W m most : Nat) (hw : cW b = W) (h0 : W ≠ 0) (hb : b = 253 ∧ W = 2 ∨ b = 254 ∧ W = 4 ∨ b = 255 ∧ W = 8) (hm : m = (if b = 253 then 253 else if b = 254 then 65536 else 4294967296)) :
    cnt (b :: t) most = rEnd 0 most (rNum (b :: t) 1 0 W, m) := by
  have e0 : rTake (b :: t) 1 0 W = if t.length < W then ([], 1, 2) else (t.take W, 1 + W, 0) := by
    unfold rTake
    rw [if_neg (by simp)]
    rfl
  unfold rEnd rNum
  rw [cnt, hw, e0]
  by_cases hsh : t.length < W
  · rw [if_pos hsh, if_pos hsh]
    rfl
  · rw [if_neg hsh, if_neg hsh]
    have hcs : cS b t = t.take W := by rw [cS, hw, if_neg h0]
    have hv := varT_leN (t.take W) W (by simp; omega) b hb
    rw [hcs]
    simp only
    rw [if_neg (by simp : ¬ (0 : Nat) ≠ 0)]
    by_cases hle : m ≤ leN (t.take W)
    · rw [if_neg (by rw [hm] at hle; exact fun h => h (hv.2 hle)), if_neg (Nat.not_lt.2 hle)]
    · rw [if_pos (fun h => hle (by rw [hm]; exact hv.1 h)), if_pos (Nat.lt_of_not_le hle)]

theorem cnt_eq (l : List UInt8) (most : Nat) : cnt l most = rVar l 0 0 most := by
  cases l with
  | nil => rfl
  | cons b t =>
    have h1 : rNum (b :: t) 0 0 1 = (b.toNat, 1, 0) := by
      unfold rNum rTake
      rw [if_neg (by simp), if_neg (by simp)]
      simp [leN]
    unfold rVar
    rw [h1]
    unfold rWide
    simp only
    have hb := b.toNat_lt
    by_cases h253 : b = 253
    · rw [if_pos (by rw [h253]; rfl)]
      exact cnt_wide b t 2 253 most (by rw [cW, if_pos h253]) (by decide) (.inl ⟨h253, rfl⟩) (by rw [if_pos h253])
    · have n253 : b.toNat ≠ 253 := fun h => h253 (UInt8.toNat_inj.1 (h.trans rfl))
      rw [if_neg n253]
      by_cases h254 : b = 254
      · rw [if_pos (by rw [h254]; rfl)]
        exact cnt_wide b t 4 65536 most (by rw [cW, if_neg h253, if_pos h254]) (by decide) (.inr (.inl ⟨h254, rfl⟩)) (by rw [if_neg h253, if_pos h254])
      · have n254 : b.toNat ≠ 254 := fun h => h254 (UInt8.toNat_inj.1 (h.trans rfl))
        rw [if_neg n254]
        by_cases h255 : b = 255
        · rw [if_pos (by rw [h255]; rfl)]
          exact cnt_wide b t 8 4294967296 most (by rw [cW, if_neg h253, if_neg h254, if_pos h255]) (by decide) (.inr (.inr ⟨h255, rfl⟩)) (by rw [if_neg h253, if_neg h254])
        · have n255 : b.toNat ≠ 255 := fun h => h255 (UInt8.toNat_inj.1 (h.trans rfl))
          rw [if_neg n255]
          have hw : cW b = 0 := by rw [cW, if_neg h253, if_neg h254, if_neg h255]
          have hcs : cS b t = [b] := by rw [cS, hw]; rfl
          have hl : leN [b] = b.toNat := by simp [leN]
          have hv : varT b.toNat = [b] := by
            rw [varT, if_pos (by omega), leB, leB]
            simp
          unfold rEnd
          rw [cnt, hw, hcs, hl, hv]
          simp
end Go.Proofs.Ythaceagaodjllaa
