/- Arguments that came in, opened: a slice of whole numbers, a slice of such slices, read as lists. No program in sight; no condition but those typed. -/
import Derived.Deep.Slices
import Derived.Deep.Matrix
import Derived.ChangeSlices
import Derived.Test.YtafefcogpdacoaaWWords
import Derived.Test.YtafefcogpdacoaaWMore
namespace Go.Proofs.Ytafefcogpdacoaa.Open
open Go.ChangeShapes Go.WideShapes Go.RowKit Go.Deep Go.Proofs.YtafefcogpdacoaaW.PrintWords
variable {H : Type} {enc : TypeId × Value → H} {P : Program} {W : World}

theorem open_ints_C {t e : TypeId} {k : IntKind} {a : Option Addr} {len cap : Nat} {d : DataW H} {p : List MemPlace} (ht : P.underlying t = some (.slice e)) (he : P.underlying e = some (.int k)) (ce : P.cellsOf e = 1)
    (h : DataW.Trod enc P W 0 (fun _ => true) true t (.slice a len cap) d p) : ∃ xs : List Int, len = xs.length ∧ xs.length ≤ cap ∧ Kd.C (Kd.int k) W a xs.length xs ∧ ∀ n ∈ xs, (Lit.int k n).wf = true := by
  obtain ⟨fuel, hf⟩ := h
  rcases open_ints ht he ce hf with ⟨hcs, _⟩ | ⟨x, l, c, zs, hcs, _, hl, hm, hz, _, hcell, hwz⟩
  · simp [Value.cells] at hcs
    obtain ⟨rfl, rfl, rfl⟩ := hcs
    exact ⟨[], rfl, Nat.le_refl _, Kd.C_nil _ _, by simp⟩
  · simp [Value.cells] at hcs
    obtain ⟨rfl, rfl, rfl⟩ := hcs
    have hz' : zs.length = cap := by simpa using hz
    have hlen : (zs.take len).length = len := by rw [List.length_take]; omega
    have hmax : maxLen = 9223372036854775807 := rfl
    refine ⟨zs.take len, hlen.symm, by omega, ?_, fun n hn => hwz n (List.take_subset _ _ hn)⟩
    refine Kd.C_of_reads (d := (0 : Int)) ⟨rfl, by omega, fun _ => ⟨x, rfl, fun j hj => ?_⟩⟩
    rw [hcell j (by omega), List.getD_eq_getElem?_getD, List.getD_eq_getElem?_getD, List.getElem?_take_of_lt (by omega)]

theorem open_rows_C {t e q : TypeId} {k : IntKind} {a : Option Addr} {len cap : Nat} {d : DataW H} {p : List MemPlace} (e0 : Nat) (ht : P.underlying t = some (.slice e)) (he : P.underlying e = some (.slice q)) (hq : P.underlying q = some (.int k)) (ce : P.cellsOf e = 1) (cq : P.cellsOf q = 1)
    (h : DataW.Trod enc P W 0 (fun _ => true) true t (.slice a len cap) d p) : ∃ ls : List (List Int), len = ls.length ∧ ls.length ≤ cap ∧ Kd.C (Kd.slice e0 (Kd.int k)) W a ls.length ls ∧ ∀ l ∈ ls, ∀ n ∈ l, (Lit.int k n).wf = true := by
  obtain ⟨fuel, hf⟩ := h
  rcases open_int_rows ht he hq ce cq hf with ⟨hcs, _⟩ | ⟨x, l, c, A, L, C, Z, hcs, _, hl, hm, _, hrow⟩
  · simp [Value.cells] at hcs
    obtain ⟨rfl, rfl, rfl⟩ := hcs
    exact ⟨[], rfl, Nat.le_refl _, Kd.C_nil _ _, by simp⟩
  · simp [Value.cells] at hcs
    obtain ⟨rfl, rfl, rfl⟩ := hcs
    have hmax : maxLen = 9223372036854775807 := rfl
    have hlen : ((List.range len).map fun r => (Z r).take (L r)).length = len := by simp
    refine ⟨(List.range len).map fun r => (Z r).take (L r), hlen.symm, by omega, ?_, ?_⟩
    · refine ⟨rfl, by omega, fun _ => ⟨x, rfl, fun j pj hj => ?_⟩⟩
      have hjl : j < len := by
        have := (List.getElem?_eq_some_iff.1 hj).1
        omega
      rw [List.getElem?_map, List.getElem?_range hjl] at hj
      simp only [Option.map_some, Option.some.injEq] at hj
      subst hj
      obtain ⟨hcell, hLC, hCm, hZl, hwz, hnone, hread⟩ := hrow j (by omega)
      have htl : ((Z j).take (L j)).length = L j := by rw [List.length_take]; omega
      refine ⟨[.slice (A j) (L j) (C j)], rfl, ⟨A j, C j, by rw [htl], by omega, ?_⟩, fun i u hu => ?_⟩
      · refine Kd.C_of_reads (d := (0 : Int)) ⟨rfl, by omega, fun hpos => ?_⟩
        cases hA : A j with
        | none =>
          have := hnone hA
          omega
        | some ad =>
          obtain ⟨_, hc⟩ := hread ad hA
          refine ⟨ad, rfl, fun i hi => ?_⟩
          rw [hc i (by omega), List.getD_eq_getElem?_getD, List.getD_eq_getElem?_getD, List.getElem?_take_of_lt (by omega)]
      · cases i with
        | zero =>
          simp only [List.getElem?_cons_zero, Option.some.injEq] at hu
          subst hu
          simpa [show (Kd.slice e0 (Kd.int k)).sz = 1 from rfl] using hcell
        | succ i => simp at hu
    · intro l' hl' n hn
      obtain ⟨r, hr, rfl⟩ := List.mem_map.1 hl'
      have := List.mem_range.1 hr
      exact (hrow r (by omega)).2.2.2.2.1 n (List.take_subset _ _ hn)
end Go.Proofs.Ytafefcogpdacoaa.Open
