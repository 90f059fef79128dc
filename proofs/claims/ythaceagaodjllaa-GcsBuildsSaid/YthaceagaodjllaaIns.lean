/- The plain law: numbers put in one by one, each behind those that are not greater, stand as the sort has them; so do a list's, turned about or twice over. No program in sight. -/
import Derived.Test.YthaceagaodjllaaBack
namespace Go.Proofs.Ythaceagaodjllaa
open Go.RowKit

/-- How many of the first numbers of a list are at most x. -/
def atN (x : Nat) (l : List Nat) : Nat := (l.takeWhile fun y => decide (y ≤ x)).length
def insN (x : Nat) (l : List Nat) : List Nat := l.take (atN x l) ++ x :: l.drop (atN x l)
theorem atN_le (x : Nat) (l : List Nat) : atN x l ≤ l.length := List.Sublist.length_le (List.takeWhile_sublist _)
theorem atN_cons (x y : Nat) (l : List Nat) : atN x (y :: l) = if y ≤ x then atN x l + 1 else 0 := by
  unfold atN
  by_cases h : y ≤ x <;> simp [h]
theorem atN_eq (x : Nat) (l : List Nat) (k : Nat) (h : ∀ j (hj : j < l.length), j < k → l[j] ≤ x) (hk : k ≤ l.length) (hs : ∀ (hl : k < l.length), x < l[k]) : atN x l = k := by
  induction l generalizing k with
  | nil => simp at hk; subst hk; rfl
  | cons y l ih =>
    rw [atN_cons]
    cases k with
    | zero => have := hs (by simp); simp at this; rw [if_neg (by omega)]
    | succ k =>
      have h0 := h 0 (by simp) (by omega)
      simp at h0
      rw [if_pos h0, ih k (fun j hj hjk => by have := h (j + 1) (by simpa using hj) (by omega); simpa using this) (by simpa using hk) (fun hl => by have := hs (by simpa using hl); simpa using this)]
theorem insN_length (x : Nat) (l : List Nat) : (insN x l).length = l.length + 1 := by
  have := atN_le x l
  simp [insN]
  omega
theorem insN_perm (x : Nat) (l : List Nat) : (insN x l).Perm (x :: l) := by
  unfold insN
  refine (List.perm_middle).trans ?_
  rw [List.take_append_drop]
theorem insN_cons (x y : Nat) (l : List Nat) : insN x (y :: l) = if y ≤ x then y :: insN x l else x :: y :: l := by
  unfold insN
  rw [atN_cons]
  by_cases h : y ≤ x
  · rw [if_pos h, if_pos h]; rfl
  · rw [if_neg h, if_neg h]; rfl
theorem insN_sorted (x : Nat) (l : List Nat) (h : l.Pairwise (fun x y => x ≤ y)) : (insN x l).Pairwise (fun x y => x ≤ y) := by
  induction l with
  | nil => simp [insN]
  | cons y l ih =>
    rw [List.pairwise_cons] at h
    rw [insN_cons]
    split
    · rename_i hyx
      rw [List.pairwise_cons]
      refine ⟨fun z hz => ?_, ih h.2⟩
      have := (insN_perm x l).mem_iff.1 hz
      rcases List.mem_cons.1 this with rfl | h2
      · exact hyx
      · exact h.1 z h2
    · rename_i hyx
      rw [List.pairwise_cons]
      refine ⟨fun z hz => ?_, List.pairwise_cons.2 h⟩
      rcases List.mem_cons.1 hz with rfl | h2
      · omega
      · have := h.1 z h2; omega
theorem sorted_perm_eq (l r : List Nat) (hl : l.Pairwise (fun x y => x ≤ y)) (hr : r.Pairwise (fun x y => x ≤ y)) (h : l.Perm r) : l = r :=
  h.eq_of_pairwise (fun a b _ _ h1 h2 => Nat.le_antisymm h1 h2) hl hr
def insAll (l : List Nat) : List Nat := l.foldl (fun acc x => insN x acc) []
theorem insAll_snoc (l : List Nat) (x : Nat) : insAll (l ++ [x]) = insN x (insAll l) := by simp [insAll]
theorem insAll_perm (l : List Nat) : (insAll l).Perm l := by
  induction l using snoc_rec with
  | nil => exact List.Perm.refl _
  | snoc r b ih =>
    rw [insAll_snoc]
    exact (insN_perm b _).trans (((List.Perm.cons b ih)).trans (List.perm_append_singleton b r).symm)
theorem insAll_sorted (l : List Nat) : (insAll l).Pairwise (fun x y => x ≤ y) := by
  induction l using snoc_rec with
  | nil => exact List.Pairwise.nil
  | snoc r b ih => rw [insAll_snoc]; exact insN_sorted b _ ih
theorem insAll_length (l : List Nat) : (insAll l).length = l.length := (insAll_perm l).length_eq
theorem insAll_sortN (l : List Nat) : insAll l = sortN l := sorted_perm_eq _ _ (insAll_sorted l) (sortN_sorted l) ((insAll_perm l).trans (List.mergeSort_perm l _).symm)
theorem sortN_perm {l r : List Nat} (h : l.Perm r) : sortN l = sortN r :=
  sorted_perm_eq _ _ (sortN_sorted l) (sortN_sorted r) ((List.mergeSort_perm l _).trans (h.trans (List.mergeSort_perm r _).symm))
theorem onceL_nodup (ls : List (List UInt8)) : (onceL ls).Nodup := by
  induction ls using snoc_rec with
  | nil => exact List.nodup_nil
  | snoc r b ih =>
    rw [onceL_snoc]
    split
    · exact ih
    · rename_i h
      rw [List.nodup_append]
      exact ⟨ih, by simp, fun x hx y hy => by simp at hy; subst hy; intro e; subst e; exact h hx⟩
/-- Lists of the same items have one filter. -/
theorem onceL_perm {ls rs : List (List UInt8)} (h : ∀ t, t ∈ ls ↔ t ∈ rs) : (onceL ls).Perm (onceL rs) :=
  (List.perm_ext_iff_of_nodup (onceL_nodup ls) (onceL_nodup rs)).2 fun t => by rw [mem_onceL, mem_onceL]; exact h t
theorem buildL_same (k0 k1 : Int) {ls rs : List (List UInt8)} (h : ∀ t, t ∈ ls ↔ t ∈ rs) : buildL k0 k1 ls = buildL k0 k1 rs := by
  have hp := onceL_perm h
  have hl := hp.length_eq
  unfold buildL numsL
  rw [hl, sortN_perm (hp.map (itemN k0 k1 (784931 * (onceL rs).length)))]
end Go.Proofs.Ythaceagaodjllaa
