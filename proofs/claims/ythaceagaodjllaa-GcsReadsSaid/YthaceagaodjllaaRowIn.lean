/- A slice of bytes that came in (the kit's shells' word IsRow) reads as a list of bytes. No condition. -/
import Derived.Test.YthaceagaodjllaaBase
import Derived.OpenShut
namespace Go.Proofs.Ythaceagaodjllaa
open Go.RowKit
/-- A slice of integers that came in (as the kit's shells say it). -/
def IsRow (k : IntKind) (w : World) (a : Option Addr) (len cap : Nat) (zs : List Int) : Prop :=
  (a = none ∧ len = 0 ∧ cap = 0 ∧ zs = []) ∨
  ∃ x, a = some x ∧ len ≤ cap ∧ cap ≤ maxLen ∧ zs.length = cap ∧ (∀ i, i < zs.length → w.cell? (x.add i) = some (.int k (zs.getD i 0))) ∧ ∀ n ∈ zs, (Lit.int k n).wf = true
theorem cell_lt {w : World} {a : Addr} {v : Value} (h : w.cell? a = some v) : a.block < w.heap.size := by
  rcases Nat.lt_or_ge a.block w.heap.size with hlt | hge
  · exact hlt
  · rw [World.cell?, Array.getElem?_eq_none hge] at h
    cases h
theorem isRow_rd {w : World} {a : Option Addr} {len cap : Nat} {zs : List Int} (h : IsRow .u8 w a len cap zs) :
    ∃ l : List UInt8, len = l.length ∧ Rd w w.heap.size a (u8s l) ∧ l.length ≤ 9223372036854775807 := by
  rcases h with ⟨rfl, rfl, rfl, rfl⟩ | ⟨x, rfl, hl, hm, hz, hcell, hwz⟩
  · exact ⟨[], rfl, Rd.nil _ _ _, by simp⟩
  · unfold maxLen at hm
    have hlen : ((zs.take len).map fun n => UInt8.ofNat n.toNat).length = len := by simp; omega
    refine ⟨(zs.take len).map fun n => UInt8.ofNat n.toNat, hlen.symm, ⟨fun hn => ?_⟩, by omega⟩
    rw [u8s_length, hlen] at hn
    obtain ⟨b, off, rfl, hc⟩ := ints_at hcell (by omega)
    refine ⟨b, off, rfl, cell_lt (hc 0 (by omega)), cell_lt (hc 0 (by omega)), fun j u hu => ?_⟩
    have hj : j < len := by
      have := (List.getElem?_eq_some_iff.1 hu).1
      rwa [u8s_length, hlen] at this
    have hjz : j < zs.length := by omega
    rw [hc j hjz]
    have hw := bounds_u8 (hwz zs[j] (List.getElem_mem hjz))
    have e : (u8s ((zs.take len).map fun n => UInt8.ofNat n.toNat))[j]? = some (.int .u8 zs[j]) := by
      simp only [u8s, List.map_map]
      rw [List.getElem?_map, List.getElem?_take_of_lt hj, List.getElem?_eq_getElem hjz]
      simp only [Option.map_some, Function.comp]
      rw [UInt8.toNat_ofNat_of_lt' (by simp [UInt8.size]; omega)]
      congr 2
      omega
    rw [e] at hu
    rw [← hu]
    simp [List.getD, hjz]
end Go.Proofs.Ythaceagaodjllaa
