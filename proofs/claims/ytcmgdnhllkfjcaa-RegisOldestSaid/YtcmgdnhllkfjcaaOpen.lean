/- A slice of pairs of whole numbers that came in, read as a list. No program's code in sight; no condition but those typed. -/
import Derived.Deep.SlicePairs
import Derived.ChangeArms
import Derived.Test.YtcmgdnhllkfjcaaPRegisPlaysx0
namespace Go.Proofs.Ytcmgdnhllkfjcaa.Open
open Go.ChangeShapes Go.WideShapes Go.RowKit Go.Deep Go.Proofs.YtcmgdnhllkfjcaaW.PrintWords Go.Proofs.Ytcmgdnhllkfjcaa.PRegisPlays
variable {H : Type} {enc : TypeId × Value → H} {P : Program} {W : World}

theorem open_steps {t e : TypeId} {f0 f1 : Field} {a : Option Addr} {len cap : Nat} {d : DataW H} {p : List MemPlace} (ht : P.underlying t = some (.slice e)) (he : P.underlying e = some (.struct #[f0, f1])) (ce : P.cellsOf e = 2) (o0 : f0.offset = 0) (o1 : f1.offset = 1)
    (c0 : P.cellsOf f0.type = 1) (c1 : P.cellsOf f1.type = 1) (h0 : P.underlying f0.type = some (.int .i64)) (h1 : P.underlying f1.type = some (.int .i64))
    (h : DataW.Trod enc P W 0 (fun _ => true) true t (.slice a len cap) d p) : ∃ xs : List S55, len = xs.length ∧ xs.length ≤ cap ∧ Kd.C k55 W a xs.length xs ∧ True := by
  obtain ⟨fuel, hf⟩ := h
  rcases open_slice_pairs ht he ce o0 o1 c0 c1 hf with ⟨hcs, _⟩ | ⟨x, l, c, m, n, V0, V1, D0, D1, P0, P1, hcs, _, hl, hm, hmm, _, hrow⟩
  · simp [Value.cells] at hcs
    obtain ⟨rfl, rfl, rfl⟩ := hcs
    exact ⟨[], rfl, Nat.le_refl _, Kd.C_nil _ _, trivial⟩
  · simp [Value.cells] at hcs
    obtain ⟨rfl, rfl, rfl⟩ := hcs
    have hmax : maxLen = 9223372036854775807 := rfl
    have hlm : len ≤ m := by rw [hmm]; simp; omega
    have hv : ∀ i, i < len → ∃ s : S55, V0 i = .int .i64 s.f0 ∧ V1 i = .int .i64 s.f1 := by
      intro i hi
      obtain ⟨_, _, t0, t1⟩ := hrow i (by omega)
      obtain ⟨n0, e0, _, _⟩ := DataW.trod_int h0 t0
      obtain ⟨n1, e1, _, _⟩ := DataW.trod_int h1 t1
      exact ⟨⟨n0, n1⟩, by simpa using e0, by simpa using e1⟩
    let f : Nat → S55 := fun i => if hi : i < len then (hv i hi).choose else z55
    have hf2 : ∀ i, i < len → V0 i = .int .i64 (f i).f0 ∧ V1 i = .int .i64 (f i).f1 := by
      intro i hi
      have := (hv i hi).choose_spec
      have e : f i = (hv i hi).choose := dif_pos hi
      rw [e]
      exact this
    have hlen : ((List.range len).map f).length = len := by simp
    refine ⟨(List.range len).map f, hlen.symm, by omega, ⟨rfl, by omega, fun _ => ⟨x, rfl, fun j pj hj => ?_⟩⟩, trivial⟩
    have hjl : j < len := by
      have := (List.getElem?_eq_some_iff.1 hj).1
      omega
    rw [List.getElem?_map, List.getElem?_range hjl] at hj
    simp only [Option.map_some, Option.some.injEq] at hj
    subst hj
    obtain ⟨g0, g1, _, _⟩ := hrow j (by omega)
    obtain ⟨v0, v1⟩ := hf2 j hjl
    refine ⟨[.int .i64 (f j).f0, .int .i64 (f j).f1], rfl, k55_mk W (f j), fun i u hu => ?_⟩
    have hsz : k55.sz = 2 := rfl
    rw [hsz]
    cases i with
    | zero =>
      simp only [List.getElem?_cons_zero, Option.some.injEq] at hu
      subst hu
      rw [← v0]
      simpa using g0
    | succ i =>
      cases i with
      | zero =>
        simp only [List.getElem?_cons_succ, List.getElem?_cons_zero, Option.some.injEq] at hu
        subst hu
        rw [← v1]
        exact g1
      | succ i => simp at hu
end Go.Proofs.Ytcmgdnhllkfjcaa.Open
