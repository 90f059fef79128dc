/- What came in reads as plain data: a slice of bytes (the kit's shells' word IsRow), a slice of such, an array of two numbers. No condition. -/
import Derived.Test.YthaceagaodjllaaItems
import Derived.OpenShut
import Derived.Deep.Slices
import Derived.ProofKit
namespace Go.Proofs.Ythaceagaodjllaa
open Go.RowKit
/-- A slice of integers that came in (as the kit's shells say it). -/
def IsRow (k : IntKind) (w : World) (a : Option Addr) (len cap : Nat) (zs : List Int) : Prop :=
  (a = none ∧ len = 0 ∧ cap = 0 ∧ zs = []) ∨
  ∃ x, a = some x ∧ len ≤ cap ∧ cap ≤ maxLen ∧ zs.length = cap ∧ (∀ i, i < zs.length → w.cell? (x.add i) = some (.int k (zs.getD i 0))) ∧ ∀ n ∈ zs, (Lit.int k n).wf = true
theorem cell_lt {w : World} {a : Addr} {v : Value} (h : w.cell? a = some v) : a.block < w.heap.size := by
  rcases Nat.lt_or_ge a.block w.heap.size with hlt | hge
  · exact hlt
  · rw [World.cell?, Array.getElem?_eq_none hge] at h
    cases h
theorem isRow_rd {w : World} {a : Option Addr} {len cap : Nat} {zs : List Int} (h : IsRow .u8 w a len cap zs) :
    ∃ l : List UInt8, len = l.length ∧ Rd w w.heap.size a (u8s l) ∧ l.length ≤ 9223372036854775807 ∧ l.length ≤ cap ∧ cap ≤ 9223372036854775807 := by
  rcases h with ⟨rfl, rfl, rfl, rfl⟩ | ⟨x, rfl, hl, hm, hz, hcell, hwz⟩
  · exact ⟨[], rfl, Rd.nil _ _ _, by simp, by simp, by omega⟩
  · unfold maxLen at hm
    have hlen : ((zs.take len).map fun n => UInt8.ofNat n.toNat).length = len := by simp; omega
    refine ⟨(zs.take len).map fun n => UInt8.ofNat n.toNat, hlen.symm, ⟨fun hn => ?_⟩, by omega, by omega, by omega⟩
    rw [u8s_length, hlen] at hn
    obtain ⟨b, off, rfl, hc⟩ := ints_at hcell (by omega)
    refine ⟨b, off, rfl, cell_lt (hc 0 (by omega)), cell_lt (hc 0 (by omega)), fun j u hu => ?_⟩
    have hj : j < len := by
      have := (List.getElem?_eq_some_iff.1 hu).1
      rwa [u8s_length, hlen] at this
    have hjz : j < zs.length := by omega
    rw [hc j hjz]
    have hw := bounds_u8 (hwz zs[j] (List.getElem_mem hjz))
    have e : (u8s ((zs.take len).map fun n => UInt8.ofNat n.toNat))[j]? = some (.int .u8 zs[j]) := by
      simp only [u8s, List.map_map]
      rw [List.getElem?_map, List.getElem?_take_of_lt hj, List.getElem?_eq_getElem hjz]
      simp only [Option.map_some, Function.comp]
      rw [UInt8.toNat_ofNat_of_lt' (by simp [UInt8.size]; omega)]
      congr 2
      omega
    rw [e] at hu
    rw [← hu]
    simp [List.getD, hjz]
theorem isRow_txv {w : World} {a : Option Addr} {len cap : Nat} {zs : List Int} (h : IsRow .u8 w a len cap zs) : ∃ l : List UInt8, Txv w w.heap.size (.slice a len cap) l := by
  obtain ⟨l, rfl, h1, _, h2, h3⟩ := isRow_rd h
  exact ⟨l, ⟨a, cap, rfl, h2, h3, h1⟩⟩
section
variable {H : Type} {enc : TypeId × Value → H} {W : World}
open Go.ChangeShapes Go.WideShapes
/-- A slice of bytes, as a datum, is one as the shells say it. -/
theorem isRow_of {fuel : Nat} {a : Option Addr} {len cap : Nat} {x : DataW H × List MemPlace} (hf : DataW.trod enc Try.prog W 0 (fun _ => true) true fuel 27 [.slice a len cap] = some x) : ∃ zs, IsRow .u8 W a len cap zs := by
  rcases open_ints Try.underlying27 Try.underlying5 (by kernel_rfl) hf with ⟨hcs, _⟩ | ⟨x, l, c, zs, hcs, _, hl, hm, hz, _, hcell, hwz⟩
  · simp at hcs
    obtain ⟨rfl, rfl, rfl⟩ := hcs
    exact ⟨[], .inl ⟨rfl, rfl, rfl, rfl⟩⟩
  · simp at hcs
    obtain ⟨rfl, rfl, rfl⟩ := hcs
    exact ⟨zs, .inr ⟨_, rfl, hl, hm, by simpa using hz, hcell, hwz⟩⟩
theorem txv_of {fuel : Nat} {v : Value} {x : DataW H × List MemPlace} (hf : DataW.trod enc Try.prog W 0 (fun _ => true) true fuel 27 [v] = some x) : ∃ l : List UInt8, Txv W W.heap.size v l := by
  have hf' := hf
  rcases open_ints Try.underlying27 Try.underlying5 (by kernel_rfl) hf' with ⟨hcs, _⟩ | ⟨x, l, c, zs, hcs, _⟩
  · injection hcs with hcs
    subst hcs
    obtain ⟨zs, h⟩ := isRow_of hf
    exact isRow_txv h
  · injection hcs with hcs
    subst hcs
    obtain ⟨zs, h⟩ := isRow_of hf
    exact isRow_txv h
/-- A slice of slices of bytes. -/
theorem items_of {fuel : Nat} {a : Option Addr} {len cap : Nat} {x : DataW H × List MemPlace} (hf : DataW.trod enc Try.prog W 0 (fun _ => true) true fuel 24 [.slice a len cap] = some x) :
    ∃ (vs : List Value) (ls : List (List UInt8)), len = ls.length ∧ Rd W W.heap.size a vs ∧ Tvs W W.heap.size vs ls ∧ ls.length ≤ 9223372036854775807 := by
  rcases Go.Deep.open_slice1 Try.underlying24 (by kernel_rfl) hf with ⟨hcs, _⟩ | ⟨ad, l, c, m, n, V, D, Pl, hcs, _, hl, hm, hmm, _, hV⟩
  · simp at hcs
    obtain ⟨rfl, rfl, rfl⟩ := hcs
    exact ⟨[], [], rfl, Rd.nil _ _ _, Tvs.nil _ _, by simp⟩
  · simp at hcs
    obtain ⟨rfl, rfl, rfl⟩ := hcs
    unfold maxLen at hm
    have hmc : m = cap := by simpa using hmm
    subst hmc
    obtain ⟨T, hT⟩ := Go.Deep.choose_lt (α := List UInt8) (n := m) (p := fun i l => Txv W W.heap.size (V i) l) (fun i hi => txv_of (hV i hi).2)
    refine ⟨(List.range len).map V, (List.range len).map T, by simp, ⟨fun hn => ?_⟩, ⟨by simp, fun k h1 h2 => ?_⟩, by simp; omega⟩
    · simp at hn
      have h0 := (hV 0 (by omega)).1
      obtain ⟨b, off, spot⟩ := ad
      have hspot : spot = none := by simpa [Addr.add] using World.cell?_spot h0
      subst hspot
      have hlt : b < W.heap.size := by
        have := cell_lt h0
        simpa [Addr.add] using this
      refine ⟨b, off, rfl, hlt, hlt, fun j u hu => ?_⟩
      obtain ⟨hj, hju⟩ := List.getElem?_eq_some_iff.1 hu
      simp at hj hju
      rw [← hju]
      have := (hV j (by omega)).1
      rwa [Go.WideShapes.add_plain] at this
    · simp at h1 h2
      simpa using hT k (by omega)
theorem okWide_arr {P : Program} {r : Reach} {base n : Nat} {t e : TypeId} {v : Value} (ht : P.underlying t = some (.array n e)) (hv : Value.okWide P W r base t v) : ∃ cs, v = .agg cs ∧ cs.size = P.cellsOf t := by
  unfold Value.okWide at hv
  rw [ht] at hv
  obtain ⟨cs, rfl, h, _⟩ := hv
  exact ⟨cs, rfl, h⟩
set_option maxRecDepth 100000 in
/-- An array of two numbers. -/
theorem key_of {base : Nat} {v : Value} {d : DataW H} {p : List MemPlace} (hv : Value.okWide Try.prog W .any base 23 v) (h : DataW.Trod enc Try.prog W 0 (fun _ => true) true 23 v d p) :
    ∃ k0 k1 : Int, v = .agg #[.int .u64 k0, .int .u64 k1] := by
  obtain ⟨cs, rfl, hsz⟩ := okWide_arr Try.underlying23 hv
  have hc2 : Try.prog.cellsOf 23 = 2 := by kernel_rfl
  have hc1 : Try.prog.cellsOf 22 = 1 := by kernel_rfl
  rw [hc2] at hsz
  obtain ⟨fuel, hf⟩ := h
  obtain ⟨xs, m, rfl, _, hlen, hxl, hel⟩ := DataW.trod_array Try.underlying23 hf
  rw [hc1] at hel
  obtain ⟨c0, c1, hcs⟩ : ∃ c0 c1, cs = #[c0, c1] := by
    rcases cs with ⟨l⟩
    rcases l with _ | ⟨c0, _ | ⟨c1, _ | ⟨c2, r⟩⟩⟩ <;> simp at hsz
    exact ⟨c0, c1, rfl⟩
  subst hcs
  have h0 := hel 0 (by omega)
  have h1 := hel 1 (by omega)
  simp only [Value.cells] at h0 h1
  rw [List.getElem?_eq_getElem (by omega)] at h0 h1
  obtain ⟨k0, e0, _⟩ := DataW.trod_int Try.underlying22 h0
  obtain ⟨k1, e1, _⟩ := DataW.trod_int Try.underlying22 h1
  simp at e0 e1
  subst e0 e1
  exact ⟨k0, k1, rfl⟩
end
end Go.Proofs.Ythaceagaodjllaa
