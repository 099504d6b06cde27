/- A slice of bools that came in, read as a list. No program's code in sight; no condition but those typed. -/
import Derived.Deep.Slices
import Derived.ChangeArms
import Derived.Test.YtcmgdnhllkfjcaaOpen
namespace Go.Proofs.Ytcmgdnhllkfjcaa.Open
open Go.ChangeShapes Go.WideShapes Go.RowKit Go.Deep Go.Proofs.YtcmgdnhllkfjcaaW.PrintWords
variable {H : Type} {enc : TypeId × Value → H} {P : Program} {W : World}
theorem open_bools_C {t e : TypeId} {a : Option Addr} {len cap : Nat} {d : DataW H} {p : List MemPlace} (ht : P.underlying t = some (.slice e)) (he : P.underlying e = some .bool) (ce : P.cellsOf e = 1)
    (h : DataW.Trod enc P W 0 (fun _ => true) true t (.slice a len cap) d p) : ∃ xs : List Bool, len = xs.length ∧ xs.length ≤ cap ∧ Kd.C Kd.bool W a xs.length xs ∧ True := by
  obtain ⟨fuel, hf⟩ := h
  rcases open_slice ht hf with ⟨hcs, _⟩ | ⟨x, l, c, m, n, D, Pl, hcs, _, hl, hm, hmm, _, hx⟩
  · simp [Value.cells] at hcs
    obtain ⟨rfl, rfl, rfl⟩ := hcs
    exact ⟨[], rfl, Nat.le_refl _, Kd.C_nil _ _, trivial⟩
  · simp [Value.cells] at hcs
    obtain ⟨rfl, rfl, rfl⟩ := hcs
    have hmax : maxLen = 9223372036854775807 := rfl
    have hlm : len ≤ m := by rw [hmm]; simp; omega
    have hv : ∀ i, i < len → ∃ b : Bool, W.cell? (x.add i) = some (.bool b) := by
      intro i hi
      obtain ⟨cs', hc, ht'⟩ := hx i (by omega)
      rw [ce] at hc
      obtain ⟨_, hcl, hat⟩ := World.cells?_some hc
      obtain ⟨b, rfl, _⟩ := DataW.trod_bool he ht'
      have h0 := hat 0 (by omega)
      have ea : (x.add (i * 1)).add 0 = x.add i := by rw [Go.Deep.add_add]; simp
      rw [ea] at h0
      exact ⟨b, by simpa using h0⟩
    let f : Nat → Bool := fun i => if hi : i < len then (hv i hi).choose else false
    have hf2 : ∀ i, i < len → W.cell? (x.add i) = some (.bool (f i)) := by
      intro i hi
      have := (hv i hi).choose_spec
      have e : f i = (hv i hi).choose := dif_pos hi
      rw [e]
      exact this
    have hlen : ((List.range len).map f).length = len := by simp
    refine ⟨(List.range len).map f, hlen.symm, by omega, Kd.C_of_reads (d := false) ⟨rfl, by omega, fun _ => ⟨x, rfl, fun j hj => ?_⟩⟩, trivial⟩
    have hjl : j < len := by omega
    rw [hf2 j hjl, List.getD_eq_getElem?_getD, List.getElem?_map, List.getElem?_range hjl]; rfl
end Go.Proofs.Ytcmgdnhllkfjcaa.Open
