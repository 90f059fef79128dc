/- Texts: as lists of bytes; to bytes and back. Over any program. -/
import Derived.Test.YthaceagaodjllaaCodec
import Derived.Test.YthaceagaodjllaaSipH
import Derived.Laws.IdiomStrings
import Derived.Laws.Concat
namespace Go.Proofs.Ythaceagaodjllaa
open Go.RowKit

/-- A text of bytes. -/
def tx (l : List UInt8) : ByteArray := ⟨l.toArray⟩
@[simp] theorem tx_size (l : List UInt8) : (tx l).size = l.length := rfl
theorem tx_data (l : List UInt8) : (tx l).data = l.toArray := rfl
theorem tx_eta (b : ByteArray) : tx b.data.toList = b := rfl
theorem tx_inj {a b : List UInt8} : tx a = tx b ↔ a = b := by
  constructor
  · intro h
    have := congrArg (fun x : ByteArray => x.data.toList) h
    simpa [tx] using this
  · intro h; rw [h]
theorem tx_append (a b : List UInt8) : tx a ++ tx b = tx (a ++ b) := ByteArray.mk_append_mk ..
theorem tx_extract (l : List UInt8) (i j : Nat) : (tx l).extract i j = tx ((l.take j).drop i) := by
  apply ByteArray.ext
  simp [tx, List.drop_take]

theorem tx_toList (l : List UInt8) : (tx l).toList = l := by rw [ByteArray.toList_eq]; rfl
section
variable {P : Program} {w : World}
theorem run_back (src dst e : TypeId) {A : Option Addr} {B c : Nat} {l : List UInt8} (hs : P.underlying src = some (.slice e)) (he : P.underlying e = some (.int .u8)) (hd : P.underlying dst = some .string) (hr : Rd w B A (u8s l)) :
    (convert src dst (.slice A l.length c)).run P w = .ok (.string (tx l)) w := by
  rcases A with _ | ad
  · have h0 : l = [] := by
      rcases Nat.eq_zero_or_pos l.length with h | h
      · exact List.eq_nil_of_length_eq_zero h
      · obtain ⟨b, off, e, _⟩ := hr.out (by simpa using h)
        cases e
    subst h0
    rw [run_convert_bytes_string w src dst e none _ _ hs he hd]
    rfl
  · refine run_convert_bytes_back w src dst e ad c l hs he hd fun j hj => ?_
    obtain ⟨b, off, e, _, _, hc⟩ := hr.out (by simp; omega)
    injection e with e
    subst e
    have h := hc j (.int .u8 (l[j].toNat : Int)) (by simp [u8s, hj])
    unfold Addr.add
    split
    · rename_i h0; subst h0; simpa using h
    · exact h

theorem wp_bytes {o : Oper} {a : Act} {K : Act → World → Prop} {Q : Exit → Act → World → Prop} (src dst e : TypeId) (x : Operand) (ho : o.op = .convert src dst x) (hs : P.underlying src = some .string) (hd : P.underlying dst = some (.slice e)) (he : P.underlying e = some (.int .u8))
    {l : List UInt8} (hx : a.eval x = .string (tx l)) (h : ∀ A c w', l.length ≤ c → Rd w' w'.heap.size A (u8s l) → Below w.heap.size w w' → K (a.put o.dst (.slice A l.length c)) w') : o.wp P a w K Q := by
  unfold Oper.wp execOp
  simp only [ho, hx, Sem.run_bind, run_bytes_of_string w src dst e (tx l) hs hd he, Result.andThen_ok, Sem.run_pure]
  refine h _ _ _ ?_ ?_ ?_
  · exact grownCap_ge w _ 0 e
  · refine ⟨fun _ => ⟨w.heap.size, 0, rfl, by simp, by simp, fun j u hu => ?_⟩⟩
    rw [Nat.zero_add]
    refine (World.cell?_alloc_mark w.drew _ _ _ _).trans ?_
    have hj : j < l.length := by
      have := (List.getElem?_eq_some_iff.1 hu).1
      simpa using this
    have h1 := bytesRow_at (tx l) (grownCap w (tx l).size 0 e) j (by simpa [tx] using hj)
    rw [h1]
    have h2 := u8s_get l j hj
    rw [List.getElem?_eq_getElem (by simpa using hj), h2] at hu
    rw [← hu]
    simp [tx]
  · exact ((Below.refl _ w).drew).alloc (Nat.le_refl _) _
theorem wpList_bytes {ops : Array Oper} {rest : List Oper} {o : Oper} {a : Act} {Q : Exit → Act → World → Prop} (src dst e : TypeId) (hgd : o.guard = none) (x : Operand) (ho : o.op = .convert src dst x) (hs : P.underlying src = some .string) (hd : P.underlying dst = some (.slice e)) (he : P.underlying e = some (.int .u8))
    {l : List UInt8} (hx : a.eval x = .string (tx l)) (h : ∀ A c w', l.length ≤ c → Rd w' w'.heap.size A (u8s l) → Below w.heap.size w w' → wpList P ops Q rest (a.put o.dst (.slice A l.length c)) w') : wpList P ops Q (o :: rest) a w :=
  wpList_plain hgd fun _ hK => wp_bytes src dst e x ho hs hd he hx fun A c w' h1 h2 h3 => hK _ _ (h A c w' h1 h2 h3)
end
end Go.Proofs.Ythaceagaodjllaa
