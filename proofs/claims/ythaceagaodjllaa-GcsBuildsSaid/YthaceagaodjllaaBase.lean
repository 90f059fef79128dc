/- Words for memory, over any program: a block that is known whole, a slice that reads as a list, the same below some block. No condition. -/
import Derived.WalkKit
import Derived.WalkSpells
import Derived.WalkLawsBesides
import Derived.BigQuiet
import Derived.Lib.Hide
import Derived.ProofKit
import Derived.Deep.LoopGhost
namespace Go.Proofs.Ythaceagaodjllaa
open Go.RowKit

/-- Block g is the row cs of elements of type t, none of them frozen. -/
structure Row (w : World) (g : Nat) (t : TypeId) (cs : List Value) : Prop where
  out : w.heap[g]? = some (.cells cs.toArray t (0, 0))

section
variable {w w' : World} {g : Nat} {t : TypeId} {cs : List Value}
theorem Row.lt (h : Row w g t cs) : g < w.heap.size := by
  have h := h.out
  rcases Nat.lt_or_ge g w.heap.size with hlt | hge
  · exact hlt
  · rw [Array.getElem?_eq_none hge] at h; cases h
theorem Row.cell (h : Row w g t cs) (i : Nat) : w.cell? ⟨g, i, none⟩ = cs[i]? := by
  rw [cell_of_row w g i _ t (0, 0) h.out]; simp
theorem Row.frozen (h : Row w g t cs) (i : Nat) : w.frozen? ⟨g, i, none⟩ = false := frozen_of_row w g i _ t h.out
theorem Row.new (w : World) (t : TypeId) (cs : List Value) : Row (w.alloc (.cells cs.toArray t)) w.heap.size t cs := ⟨heap_alloc_new w _⟩
theorem Row.drew (h : Row w g t cs) : Row w.drew g t cs := ⟨h.out⟩
theorem Row.drewN (h : Row w g t cs) (n : Nat) : Row (w.drewN n) g t cs := ⟨h.out⟩
theorem Row.alloc (h : Row w g t cs) (o : Obj) : Row (w.alloc o) g t cs := ⟨(Below.heap_alloc w o g h.lt).trans h.out⟩
theorem Row.set (h : Row w g t cs) (i : Nat) (u : Value) : Row (w.setCell ⟨g, i, none⟩ u) g t (cs.set i u) := ⟨by
  rw [heap_setCell_same w g i _ t u h.out]
  simp⟩
theorem Row.far (h : Row w g t cs) {p : Addr} (hp : g ≠ p.block) (u : Value) : Row (w.setCell p u) g t cs := ⟨(Below.heap_setCell w p u g hp).trans h.out⟩
theorem Row.below {B : Nat} (h : Row w g t cs) (hb : Below B w w') (hg : g < B) : Row w' g t cs := ⟨(hb.block g hg).trans h.out⟩
theorem Row.grown {row : Option Nat} (h : Row w g t cs) (hb : w.grownBy w' row) (hg : some g ≠ row) : Row w' g t cs := ⟨(hb.block g h.lt hg).trans h.out⟩
end

theorem Row.set_eq {w : World} {g i : Nat} {t : TypeId} {cs cs' : List Value} {u : Value} (h : Row w g t cs) (he : cs.set i u = cs') : Row (w.setCell ⟨g, i, none⟩ u) g t cs' := he ▸ h.set i u
theorem Row.new_eq {w : World} {g : Nat} {t : TypeId} {cs : List Value} (hg : w.heap.size = g) : Row (w.alloc (.cells cs.toArray t)) g t cs := hg ▸ Row.new w t cs
/-- The world under a new name, with what is known of it. -/
theorem absw {R : World → Prop} {w : World} (F : World → Prop) (hF : F w) (h : ∀ wX, F wX → R wX) : R w := h w hF
theorem absc {P : Program} {f : FuncId} {args : Array Value} {R : Ending → World → Prop} {w : World} (F : World → Prop) (hF : F w) (h : ∀ wX, F wX → Calls P f args wX R) : Calls P f args w R := h w hF
/-- A slice at A that reads as the cells xs, all of it below block B. -/
structure Rd (w : World) (B : Nat) (A : Option Addr) (xs : List Value) : Prop where
  out : 0 < xs.length → ∃ b off, A = some ⟨b, off, none⟩ ∧ b < B ∧ b < w.heap.size ∧ ∀ j u, xs[j]? = some u → w.cell? ⟨b, off + j, none⟩ = some u

section
variable {w w' : World} {B B' : Nat} {A : Option Addr} {xs : List Value}
theorem Rd.nil (w : World) (B : Nat) (A : Option Addr) : Rd w B A [] := ⟨fun h => absurd h (by simp)⟩
theorem Rd.at (h : Rd w B A xs) {k : Nat} (hk : k < xs.length) : ∃ b off, A = some ⟨b, off, none⟩ ∧ b < B ∧ b < w.heap.size ∧ w.cell? ⟨b, off + k, none⟩ = some xs[k] := by
  obtain ⟨b, off, e, hb, hs, hc⟩ := h.out (by omega)
  exact ⟨b, off, e, hb, hs, hc k _ (List.getElem?_eq_getElem hk)⟩
theorem Rd.keep (h : Rd w B A xs) (hs : w.heap.size ≤ w'.heap.size) (hk : ∀ b o, b < B → b < w.heap.size → w'.cell? ⟨b, o, none⟩ = w.cell? ⟨b, o, none⟩) : Rd w' B A xs := ⟨fun hn => by
  obtain ⟨b, off, e, hb, hz, hc⟩ := h.out hn
  exact ⟨b, off, e, hb, by omega, fun j u hu => (hk _ _ hb hz).trans (hc j u hu)⟩⟩
theorem Rd.more (h : Rd w B A xs) (hB : B ≤ B') : Rd w B' A xs := ⟨fun hn => by
  obtain ⟨b, off, e, hb, hz, hc⟩ := h.out hn
  exact ⟨b, off, e, by omega, hz, hc⟩⟩
theorem Rd.top (h : Rd w B A xs) : Rd w w.heap.size A xs := ⟨fun hn => by
  obtain ⟨b, off, e, _, hz, hc⟩ := h.out hn
  exact ⟨b, off, e, hz, hz, hc⟩⟩
theorem Rd.below (h : Rd w B A xs) (hb : Below B w w') : Rd w' B A xs := h.keep hb.size fun b o hlt _ => hb.cell (p := ⟨b, o, none⟩) hlt
theorem Rd.drew (h : Rd w B A xs) : Rd w.drew B A xs := ⟨h.out⟩
theorem Rd.drewN (h : Rd w B A xs) (k : Nat) : Rd (w.drewN k) B A xs := ⟨h.out⟩
theorem Rd.alloc (h : Rd w B A xs) (o : Obj) : Rd (w.alloc o) B A xs := h.keep (by simp) fun b o' _ hz => World.cell?_alloc_lt w o ⟨b, o', none⟩ hz
theorem Rd.grown (h : Rd w B A xs) {row : Option Nat} (hg : w.grownBy w' row) (hr : ∀ g, row = some g → B ≤ g) : Rd w' B A xs :=
  h.keep hg.size fun b o hB hz => World.cell?_of_block (a := ⟨b, o, none⟩) (hg.block b hz (fun e => by have := hr _ e.symm; omega))
theorem Rd.setCell (h : Rd w B A xs) {p : Addr} (hB : B ≤ p.block) (u : Value) : Rd (w.setCell p u) B A xs :=
  h.keep (by simp) fun b o hlt _ => World.cell?_setCell_other w p ⟨b, o, none⟩ u (fun e => by subst e; simp at hB; omega)
/-- 's[k:]' -/
theorem Rd.cut (h : Rd w B A xs) {k cap : Nat} (hk : k ≤ xs.length) (hc : xs.length ≤ cap) : Rd w B (if cap = k then A else A.map (·.add k)) (xs.drop k) := ⟨fun hn => by
  rw [List.length_drop] at hn
  obtain ⟨b, off, rfl, hb, hz, hcell⟩ := h.out (by omega)
  rw [if_neg (by omega)]
  refine ⟨b, off + k, ?_, hb, hz, fun j u hu => ?_⟩
  · simp only [Option.map_some, Addr.add]
    split
    · rename_i h0; subst h0; rfl
    · rfl
  · rw [List.getElem?_drop] at hu
    rw [Nat.add_assoc]
    exact hcell _ _ hu⟩
theorem Rd.take (h : Rd w B A xs) (k : Nat) : Rd w B A (xs.take k) := ⟨fun hn => by
  rw [List.length_take] at hn
  obtain ⟨b, off, rfl, hb, hz, hcell⟩ := h.out (by omega)
  refine ⟨b, off, rfl, hb, hz, fun j u hu => hcell j u ?_⟩
  rw [List.getElem?_take] at hu
  split at hu
  · exact hu
  · cases hu⟩
theorem Rd.of_own {base size n c : Nat} {e : TypeId} (h : w.ownsRow base e size (.slice A n c) n xs) : Rd w w.heap.size A xs := ⟨fun hn => by
  rcases h.2 with ⟨h2, h3⟩ | ⟨g, cap, cur, hv, _, hh, _⟩
  · have := h.1; simp [h3] at this; simp [this] at hn
  · injection hv with hA
    have hlt : g < w.heap.size := by
      rcases Nat.lt_or_ge g w.heap.size with hlt | hge
      · exact hlt
      · rw [Array.getElem?_eq_none hge] at hh; cases hh
    refine ⟨g, 0, hA, hlt, hlt, fun j u hu => ?_⟩
    have := h.cells (g := g) (by rw [hA]; rfl) j u hu
    rw [Nat.zero_add]
    have hadd : (⟨g, 0, none⟩ : Addr).add j = ⟨g, j, none⟩ := by unfold Addr.add; split <;> simp_all
    rwa [hadd] at this⟩
theorem Rd.row {g : Nat} {t : TypeId} (h : Row w g t xs) : Rd w w.heap.size (some ⟨g, 0, none⟩) xs := ⟨fun _ =>
  ⟨g, 0, rfl, h.lt, h.lt, fun j u hu => by rw [Nat.zero_add, h.cell]; exact hu⟩⟩
end

theorem Rd.len0 {w : World} {B : Nat} {A : Option Addr} {xs : List Value} (h0 : xs.length = 0) : Rd w B A xs := ⟨fun h => absurd h (by omega)⟩
theorem Rd.shift {w : World} {B b off : Nat} {xs : List Value} (h : Rd w B (some ⟨b, off, none⟩) xs) (k : Nat) : Rd w B (some ⟨b, off + k, none⟩) (xs.drop k) := ⟨fun hn => by
  rw [List.length_drop] at hn
  obtain ⟨b', off', e, hb, hz, hc⟩ := h.out (by omega)
  injection e with e
  injection e with e1 e2
  subst e1 e2
  refine ⟨b, off + k, rfl, hb, hz, fun j u hu => ?_⟩
  rw [List.getElem?_drop] at hu
  rw [Nat.add_assoc]
  exact hc _ u hu⟩
theorem Rd.cutm {w : World} {B : Nat} {A : Option Addr} {xs : List Value} (h : Rd w B A xs) (k : Nat) : Rd w B (A.map fun x => x.add k) (xs.drop k) := ⟨fun hn => by
  have hn' := hn
  rw [List.length_drop] at hn
  obtain ⟨b, off, rfl, _⟩ := h.out (by omega)
  obtain ⟨b', off', e, h2⟩ := (h.shift k).out hn'
  refine ⟨b', off', ?_, h2⟩
  rw [← e]
  simp only [Option.map_some, Addr.add]
  split
  · rename_i h0; subst h0; rfl
  · rfl⟩
theorem slice_eq {A : Option Addr} {n m c : Nat} (h : n = m) : Value.slice A n c = .slice A m c := by rw [h]
/-- What lay in W below block B reads as it did. -/
theorem bcell {B : Nat} {W w1 : World} (hb : Below B W w1) : (∀ b o, b < B → w1.cell? ⟨b, o, none⟩ = W.cell? ⟨b, o, none⟩) ∧ (∀ b o, b < B → w1.frozen? ⟨b, o, none⟩ = W.frozen? ⟨b, o, none⟩) :=
  ⟨fun b o h => hb.cell (p := ⟨b, o, none⟩) h, fun b o h => hb.frozen (p := ⟨b, o, none⟩) h⟩

def u8s (l : List UInt8) : List Value := l.map fun b => .int .u8 (b.toNat : Int)
@[simp] theorem u8s_length (l : List UInt8) : (u8s l).length = l.length := by simp [u8s]
theorem u8s_get (l : List UInt8) (k : Nat) (h : k < l.length) : (u8s l)[k]'(by simpa using h) = .int .u8 (l[k].toNat : Int) := by simp [u8s]
theorem u8s_drop (l : List UInt8) (k : Nat) : (u8s l).drop k = u8s (l.drop k) := by simp [u8s, List.map_drop]
theorem u8s_take (l : List UInt8) (k : Nat) : (u8s l).take k = u8s (l.take k) := by simp [u8s, List.map_take]
theorem ret_eq {a b : Value} (h : a = b) : Ending.returned a = .returned b := by rw [h]
theorem int_eq {k : IntKind} {a b : Int} (h : a = b) : Value.int k a = .int k b := by rw [h]
end Go.Proofs.Ythaceagaodjllaa
