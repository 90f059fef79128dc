/- A region that draws its order: its first operations yield one value in every world of a class; of the others some yield one value wherever a fact holds that every operation keeps, and the rest follow in one order. Over any program; no condition. -/
import Derived.Test.YthaceagaodjllaaReg
import Derived.OrdersHeld
import Derived.Deep.RegionHeld3
namespace Go.Proofs.Ythaceagaodjllaa
open Go.RowKit
section
variable {P : Program} {ops : Array Oper} {md : Region.Mode} {C S : World → Prop}

def Region.laterB (md : Region.Mode) (ops : Array Oper) (n : Nat) : Bool :=
  (List.range ops.size).all fun t => decide (t ≤ n) || (List.range ops.size).any fun s => decide (n ≤ s) && Region.waitsFor md ops t s

theorem later_waits {n : Nat} {listed : Array Bool} (hs : Region.sinkB md ops n = true) (hc : Region.laterB md ops n = true) (hn : n < ops.size) (inv : HeadInv md ops n listed) :
    ∀ (d i : Nat), n - i = d → i < n → listed.getD i true = false → ∀ t, n ≤ t → t ∉ Region.ready md ops listed := by
  intro d
  induction d using Nat.strongRecOn with
  | _ d ih =>
    intro i hd hi hun t ht hr
    obtain ⟨_, ot, hot, hall⟩ := mem_ready.1 hr
    have htlt : t < ops.size := (Array.getElem?_eq_some_iff.1 hot).1
    by_cases htn : t = n
    · subst htn
      have h1 := List.all_eq_true.1 hs i (List.mem_range.2 hi)
      obtain ⟨j, hj, hj2⟩ := List.any_eq_true.1 h1
      simp only [Bool.and_eq_true, decide_eq_true_eq] at hj2
      obtain ⟨oj, hoj, e, he, hb, hon⟩ := Region.waitsFor_spec hj2.2
      have hjle : j ≤ t := by have := List.mem_range.1 hj; omega
      by_cases hjt : j = t
      · subst hjt
        have : oj = ot := Option.some.inj (hoj.symm.trans hot)
        subst this
        have h2 := hall e he hb
        rw [hon, getD_both hun] at h2
        cases h2
      · cases hl : listed.getD j false with
        | true =>
          have h2 := inv.closed j oj hoj hl e he hb
          rw [hon, getD_both hun] at h2
          cases h2
        | false =>
          have hjs : j < listed.size := by rw [inv.size]; omega
          exact ih (t - j) (by omega) j rfl (by omega) (getD_in hjs hl) t (Nat.le_refl _) hr
    · have h1 := List.all_eq_true.1 hc t (List.mem_range.2 htlt)
      simp only [Bool.or_eq_true, decide_eq_true_eq] at h1
      rcases h1 with h1 | h1
      · omega
      · obtain ⟨s, hs1, hs2⟩ := List.any_eq_true.1 h1
        simp only [Bool.and_eq_true, decide_eq_true_eq] at hs2
        obtain ⟨o', ho', e, he, hb, hon⟩ := Region.waitsFor_spec hs2.2
        have : o' = ot := Option.some.inj (ho'.symm.trans hot)
        subst this
        have h2 := hall e he hb
        rw [hon, getD_both (inv.tail s hs2.1 (List.mem_range.1 hs1))] at h2
        cases h2

/-- Of the first n operations whatever comes up keeps S; behind f of them 'L' holds. -/
def headH (P : Program) (md : Region.Mode) (ops : Array Oper) (Q : Exit → Act → World → Prop) (S : World → Prop) (n : Nat) (L : Array Bool → Act → World → Prop) : Nat → Array Bool → Act → World → Prop
  | 0, listed, a, w => L listed a w
  | f + 1, listed, a, w => Region.ready md ops listed ≠ [] ∧ ∀ i ∈ Region.ready md ops listed, i < n ∧ wpOp P ops Q i (fun a' w' => S w' ∧ headH P md ops Q S n L f (listed.setIfInBounds i true) a' w') a w

theorem any_of_headH {n g : Nat} {Q : Exit → Act → World → Prop} {L : Array Bool → Act → World → Prop} (hL : ∀ listed a w, S w → L listed a w → wpAny P md ops Q g listed a w) (f : Nat) :
    ∀ (listed : Array Bool) (a : Act) (w : World), S w → headH P md ops Q S n L f listed a w → wpAny P md ops Q (f + g) listed a w := by
  induction f with
  | zero => intro listed a w hw h; rw [Nat.zero_add]; exact hL _ _ _ hw h
  | succ f ih =>
    intro listed a w hw h
    rw [show f + 1 + g = (f + g) + 1 by omega]
    exact ⟨fun h0 => absurd h0 h.1, fun i hi => wpOp_mono (fun a' w' hh => ih _ _ _ hh.1 hh.2) (h.2 i hi).2⟩

theorem headH_first {n i : Nat} {oi : Oper} {v : Value} {Q : Exit → Act → World → Prop} {L : Array Bool → Act → World → Prop} (hi : ops[i]? = some oi) (hsel : ∀ (j : Nat) (o : Oper) cs b, ops[j]? = some o → o.op ≠ .select cs b)
    (hQ : ∀ c a w, Q (.panic c) (a.put oi.dst v) w → Q (.panic c) a w)
    (hs : Region.sinkB md ops n = true) (hc : Region.laterB md ops n = true) (hn : n < ops.size) (hin : i < n) (hdone : ∀ listed a w, L listed a w → ∀ j ∈ Region.ready md ops listed, n ≤ j) (f : Nat) :
    ∀ (listed : Array Bool) (a : Act) (w : World), HeadInv md ops n listed →
      (∀ j oj, ops[j]? = some oj → j ≠ i → listed.getD j true = false → (∀ e ∈ oj.after, Region.binds md e = true → e.on ≠ i) → oi.apart ops oj = true) →
      i ∈ Region.ready md ops listed → S w → YieldsIf P ops S oi v a → headH P md ops Q S n L f (listed.setIfInBounds i true) (a.put oi.dst v) w → headH P md ops Q S n L (f + 1) listed a w := by
  induction f with
  | zero =>
    intro listed a w inv _ hr hS hy H
    refine ⟨fun h0 => (by rw [h0] at hr; cases hr), fun j hj => ?_⟩
    have hjn : j < n := by
      rcases Nat.lt_or_ge j n with h | h
      · exact h
      · exact absurd hj (later_waits hs hc hn inv _ i rfl hin (mem_ready.1 hr).1 j h)
    by_cases hji : j = i
    · subst hji; exact ⟨hjn, hy.wpOp hi hS ⟨hS, H⟩⟩
    · have h2 := hdone _ _ _ H j (ready_mono hj hji)
      omega
  | succ f ih =>
    intro listed a w inv hfree hr hS hy H
    have hun := (mem_ready.1 hr).1
    refine ⟨fun h0 => (by rw [h0] at hr; cases hr), fun j hj => ?_⟩
    have hjn : j < n := by
      rcases Nat.lt_or_ge j n with h | h
      · exact h
      · exact absurd hj (later_waits hs hc hn inv _ i rfl hin hun j h)
    refine ⟨hjn, ?_⟩
    by_cases hji : j = i
    · subst hji; exact hy.wpOp hi hS ⟨hS, H⟩
    · obtain ⟨hjun, oj, hoj, hall⟩ := mem_ready.1 hj
      have hnot : ∀ e ∈ oj.after, Region.binds md e = true → e.on ≠ i := fun e he hb heq => by
        have h1 := hall e he hb
        rw [heq, getD_both hun] at h1
        cases h1
      have h2 := wpOp_putIf hoj (hfree j oj hoj hji hjun hnot) (fun cs b => hsel i oi cs b hi) (fun cs b => hsel j oj cs b hoj) hQ hy (H.2 j (ready_mono hj hji)).2
      refine wpOp_mono (fun a' w' h3 => ⟨h3.2.1, ih (listed.setIfInBounds j true) a' w' (inv.set hj hjn) (fun k ok hk hki hun' hno => ?_) (ready_mono hr (Ne.symm hji)) h3.2.1 h3.1 ?_⟩) h2
      · refine hfree k ok hk hki ?_ hno
        by_cases hjk : j = k
        · subst hjk; exact hjun
        · rw [getD_set_ne true hjk] at hun'; exact hun'
      · rw [Array.setIfInBounds_comm _ _ hji]
        exact h3.2.2

/-- The plan of what follows the head: (i, true): operation i is taken first; (i, false): nothing else can come up. -/
def planB (md : Region.Mode) (ops : Array Oper) : List (Nat × Bool) → Array Bool → Bool
  | [], listed => (Region.ready md ops listed).isEmpty
  | (i, true) :: r, listed => (Region.ready md ops listed).contains i && Region.free md ops listed i && planB md ops r (listed.setIfInBounds i true)
  | (i, false) :: r, listed => decide (Region.ready md ops listed = [i]) && planB md ops r (listed.setIfInBounds i true)
def headB (md : Region.Mode) (ops : Array Oper) (pl : List (Nat × Bool)) (n : Nat) : List (Nat × Bool) → Array Bool → Bool
  | [], listed => (Region.ready md ops listed).all (fun j => decide (n ≤ j)) && planB md ops pl listed
  | (i, true) :: r, listed => decide (i < n) && (Region.ready md ops listed).contains i && Region.free md ops listed i && headB md ops pl n r (listed.setIfInBounds i true)
  | (i, false) :: r, listed => decide (i < n) && decide (Region.ready md ops listed = [i]) && headB md ops pl n r (listed.setIfInBounds i true)
def regionB (md : Region.Mode) (ops : Array Oper) (n : Nat) (p1 pl : List (Nat × Bool)) : Bool :=
  Region.noSelect ops && decide (n < ops.size) && Region.sinkB md ops n && Region.laterB md ops n && decide (p1.length + pl.length = ops.size) && headB md ops pl n p1 (Array.replicate ops.size false)

/-- The walk by a plan: what is taken first yields its value wherever S holds; every other operation keeps S; behind all of them K. -/
def wpPlan (P : Program) (ops : Array Oper) (Q : Exit → Act → World → Prop) (S : World → Prop) (K : Act → World → Prop) : List (Nat × Bool) → Act → World → Prop
  | [], a, w => K a w
  | (i, true) :: r, a, w => ∃ o v, ops[i]? = some o ∧ YieldsIf P ops S o v a ∧ wpPlan P ops Q S K r (a.put o.dst v) w
  | (i, false) :: r, a, w => ∃ o, ops[i]? = some o ∧ wpList P ops (Exit.then (fun a' w' => S w' ∧ wpPlan P ops Q S K r a' w') Q) [o] a w

theorem wpOp_of_list {Q : Exit → Act → World → Prop} {K : Act → World → Prop} {i : Nat} {o : Oper} {a : Act} {w : World} (ho : ops[i]? = some o) (h : wpList P ops (Exit.then K Q) [o] a w) : wpOp P ops Q i K a w := by
  have h2 : wpOp P ops (Exit.then K Q) i K a w := by unfold wpOp; simp only [ho]; exact h
  unfold wpOp at h2 ⊢
  simp only [ho] at h2 ⊢
  split at h2
  · rename_i hw
    rw [if_pos hw]
    rcases h2 with h2 | ⟨h2, h3⟩
    · refine .inl ?_
      unfold Oper.wp at h2 ⊢
      generalize (execOp a.eval o).run P w = res at h2 ⊢
      cases res with
      | ok nx w' =>
        cases nx <;> simp only [Oper.upon] at h2 ⊢
        case value => exact h2
        case skip => exact h2
        case defer => exact h2
        case enter f args =>
          refine h2.mono fun e w'' he => ?_
          cases e with
          | returned u => exact he
          | panicked c => exact he
          | outgrown => exact he
        case row row args => exact h2
      | halt x w' => cases x <;> simp only [Oper.upon] at h2 ⊢; exact h2
    · exact .inr ⟨h2, h3⟩
  · rename_i hw
    rw [if_neg hw]
    exact h2

theorem head_of_plan {n : Nat} {pl : List (Nat × Bool)} {Q : Exit → Act → World → Prop} {K : Act → World → Prop} (hsel : Region.noSelect ops = true) (hQ : ∀ c d v a w, Q (.panic c) (Act.put a d v) w → Q (.panic c) a w)
    (hs : Region.sinkB md ops n = true) (hc : Region.laterB md ops n = true) (hn : n < ops.size) (p1 : List (Nat × Bool)) :
    ∀ (listed : Array Bool) (a : Act) (w : World), HeadInv md ops n listed → headB md ops pl n p1 listed = true → S w → wpPlan P ops Q S K p1 a w →
      headH P md ops Q S n (fun listed' a' w' => (∀ j ∈ Region.ready md ops listed', n ≤ j) ∧ planB md ops pl listed' = true ∧ K a' w') p1.length listed a w := by
  induction p1 with
  | nil =>
    intro listed a w _ hB _ h
    simp only [headB, Bool.and_eq_true, List.all_eq_true, decide_eq_true_eq] at hB
    exact ⟨hB.1, hB.2, h⟩
  | cons x r ih =>
    intro listed a w inv hB hS h
    obtain ⟨i, b⟩ := x
    cases b with
    | true =>
      simp only [headB, Bool.and_eq_true, decide_eq_true_eq] at hB
      obtain ⟨⟨⟨hin, hr⟩, hf⟩, hB⟩ := hB
      have hr' : i ∈ Region.ready md ops listed := by simpa using hr
      obtain ⟨o, v, ho, hy, h⟩ := h
      exact headH_first ho (Region.noSelect_spec hsel) (fun c a w => hQ c _ _ a w) hs hc hn hin (fun listed' a' w' hL => hL.1) r.length listed a w inv (Region.free_spec ho hf) hr' hS hy (ih _ _ _ (inv.set hr' hin) hB hS h)
    | false =>
      simp only [headB, Bool.and_eq_true, decide_eq_true_eq] at hB
      obtain ⟨⟨hin, hr⟩, hB⟩ := hB
      have hr' : i ∈ Region.ready md ops listed := by rw [hr]; simp
      obtain ⟨o, ho, h⟩ := h
      refine ⟨fun h0 => (by rw [h0] at hr'; cases hr'), fun j hj => ?_⟩
      rw [hr] at hj
      have hji : j = i := by simpa using hj
      subst hji
      exact ⟨hin, wpOp_mono (fun a' w' hh => ⟨hh.1, ih _ _ _ (inv.set hr' hin) hB hh.1 hh.2⟩) (wpOp_of_list ho h)⟩

theorem anyH_of_plan {Q : Exit → Act → World → Prop} (hsel : Region.noSelect ops = true) (hQ : ∀ c d v a w, Q (.panic c) (Act.put a d v) w → Q (.panic c) a w) (pl : List (Nat × Bool)) :
    ∀ (listed : Array Bool) (a : Act) (w : World), planB md ops pl listed = true → S w → wpPlan P ops Q S (Q .normal) pl a w → wpAnyH P md ops Q S pl.length listed a w := by
  induction pl with
  | nil => intro listed a w hB _ h; exact ⟨by simpa [planB] using hB, h⟩
  | cons x r ih =>
    intro listed a w hB hS h
    obtain ⟨i, b⟩ := x
    cases b with
    | true =>
      simp only [planB, Bool.and_eq_true] at hB
      obtain ⟨o, v, ho, hy, h⟩ := h
      exact wpAnyH_take ho hsel hB.1.2 hB.1.1 (fun c a w => hQ c _ _ a w) hy hS (ih _ _ _ hB.2 hS h)
    | false =>
      simp only [planB, Bool.and_eq_true, decide_eq_true_eq] at hB
      obtain ⟨o, ho, h⟩ := h
      refine wpAnyH_all hB.1 (by simp) fun j hj => ?_
      have hji : j = i := by simpa using hj
      subst hji
      exact wpOp_mono (fun a' w' hh => ⟨hh.1, ih _ _ _ hB.2 hh.1 hh.2⟩) (wpOp_of_list ho h)

/-- Two plans, one behind the other: the first n operations under S1, the others under S2. -/
theorem wp_region_plan {id : Nat} {Q : Exit → Act → World → Prop} {a : Act} {w : World} {l : List Oper} (n : Nat) (p1 pl : List (Nat × Bool)) (S1 S2 : World → Prop) (hm : P.follows .mixedOrders = true) (hB : regionB .any l.toArray n p1 pl = true)
    (hS : S1 { w with drawn := w.drawn + 1 })
    (h : wpPlan P l.toArray (NoPanic Q) S1 (fun a' w' => S2 w' ∧ wpPlan P l.toArray (NoPanic Q) S2 (NoPanic Q .normal) pl a' w') p1 a { w with drawn := w.drawn + 1 }) : (Code.region id l.toArray true).wp P Q a w := by
  simp only [regionB, Bool.and_eq_true, decide_eq_true_eq] at hB
  obtain ⟨⟨⟨⟨⟨hsel, hn⟩, hs⟩, hc⟩, hpl⟩, hhead⟩ := hB
  have inv0 : HeadInv .any l.toArray n (Array.replicate l.toArray.size false) :=
    ⟨by simp, fun j oj _ hl => (by rw [getD_replicate_false] at hl; cases hl), fun t _ ht => getD_in (by simpa using ht) (getD_replicate_false _ _)⟩
  have H := head_of_plan (md := .any) (pl := pl) hsel (fun c d v a w hh => hh) hs hc hn p1 _ a _ inv0 hhead hS h
  refine wp_region_noPanic (wp_region_any hm ?_)
  have h2 := any_of_headH (Q := NoPanic Q) (g := pl.length) (fun listed a' w' _ hL => wpAny_of_held _ _ _ _ (anyH_of_plan hsel (fun c d v a w hh => hh) pl listed a' w' hL.2.1 hL.2.2.1 hL.2.2.2)) _ _ _ _ hS H
  rw [hpl] at h2
  exact h2
end
end Go.Proofs.Ythaceagaodjllaa
