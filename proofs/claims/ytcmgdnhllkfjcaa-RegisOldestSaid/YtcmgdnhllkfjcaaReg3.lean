/- Regis (chapter 21): what End does. -/
import Derived.Test.YtcmgdnhllkfjcaaReg1
import Derived.Lib.SliceRun
import Derived.Deep.RegionLaw
namespace Go.Proofs.Ytcmgdnhllkfjcaa.Reg
open Go.RowKit Go.Proofs.YtcmgdnhllkfjcaaW.PrintWords Go.Proofs.YtcmgdnhllkfjcaaW.PrintLast Go.Proofs.YtcmgdnhllkfjcaaW.PrintMore Go.Proofs.Ytcmgdnhllkfjcaa.Objs Go.Proofs.Ytcmgdnhllkfjcaa.PRegisPlays
set_option linter.unusedVariables false
set_option linter.unusedSimpArgs false

/-- The test of a ticket. -/
theorem test_calls (a b t : Int) (g : Nat) (w : World) (h : w.cell? ⟨g, 0, none⟩ = some (.int .i64 t)) :
    Calls Try.prog 24 #[.agg #[.int .i64 a, .int .i64 b], .pointer (some ⟨g, 0, none⟩)] w fun e w' => e = .returned (.bool (a == t)) ∧ w' = w.alloc (.cells #[.int .i64 a, .int .i64 b] 55) := by
  have h2 := Lib.cell?_alloc_some (.cells #[.int .i64 a, .int .i64 b] 55) h
  go_enter Try.func24, Try.ntmps24
  go_wp2
  go_ret
  exact ⟨rfl, rfl⟩
set_option maxRecDepth 100000 in
set_option maxHeartbeats 1600000 in
theorem index_calls (A : Option Addr) (c : Nat) (l : List S55) (t : Int) (g : Nat) (w : World) (hC : Kd.C k55 w A l.length l) (hc : l.length ≤ c) (h : w.cell? ⟨g, 0, none⟩ = some (.int .i64 t)) :
    Calls Try.prog 23 #[.slice A l.length c, .func (.func 24) #[] #[.pointer (some ⟨g, 0, none⟩)]] w fun e w' => ∃ r : Int, e = .returned (.int .i64 r) ∧
      ((r = -1 ∧ ∀ j, j < l.length → (rd_T55 l j).f0 ≠ t) ∨ ∃ k : Nat, k < l.length ∧ r = k ∧ (rd_T55 l k).f0 = t ∧ ∀ j : Nat, j < k → (rd_T55 l j).f0 ≠ t) ∧ Below w.heap.size w w' := by
  have hlen : l.length ≤ 9223372036854775807 := hC.2.1
  have HC := Lib.hid hC
  have HG := Lib.hid h
  have hg := World.block_lt_of_cell? w _ h
  clear hC h
  go_enter Try.func23, Try.ntmps23
  go_wp2
  go_loopw [8] (fun i wl => ∃ k : Nat, k ≤ l.length ∧ i = .int .i64 k ∧ Hid (∀ j : Nat, j < k → (rd_T55 l j).f0 ≠ t) ∧ Hid (Below w.heap.size w wl)) (fun i _ => l.length - (intOf i).toNat)
  case atStart => exact ⟨0, Nat.zero_le _, rfl, Lib.hid (fun j hj => absurd hj (Nat.not_lt_zero _)), Lib.hid (Below.refl _ _)⟩
  case round =>
    obtain ⟨k, hk, rfl, HN, HB⟩ := hrel
    by_cases hlt : k < l.length
    · obtain ⟨ad, hA, k0, k1⟩ := at_T55 (Kd.C_below HC.out HB.out) k (by omega) (by omega)
      subst hA
      have e1 : ((k : Int).toNat * 2) = k * 2 := by simp
      rw [e1] at k0 k1
      obtain ⟨x, hx⟩ : ∃ x, rd_T55 l k = x := ⟨_, rfl⟩
      rw [hx] at k0 k1
      have HX := Lib.hid hx
      clear hx e1
      have hcg := pw_cell_below HB.out HG.out
      go_wp2_with fail
      refine (test_calls x.f0 x.f1 t g _ hcg).mono ?_
      rintro e w' ⟨rfl, rfl⟩
      by_cases heq : x.f0 = t
      · have hb : (x.f0 == t) = true := beq_iff_eq.2 heq
        go_wp2
        go_ret
        exact ⟨k, rfl, .inr ⟨k, hlt, rfl, by rw [HX.out]; exact heq, HN.out⟩, below_alloc HB.out _⟩
      · have hb : (x.f0 == t) = false := beq_eq_false_iff_ne.2 heq
        have HE := Lib.hid heq
        clear heq
        go_wp2
        go_roundw
        case rel => exact ⟨k + 1, by omega, by go_num, Lib.hid (fun j hj => by by_cases e : j = k; exact e ▸ (by rw [HX.out]; exact HE.out); exact HN.out j (by omega)), Lib.hid (below_alloc HB.out _)⟩
        case measure => simp [intOf]; omega
    · obtain rfl : k = l.length := by omega
      go_wp2
      go_ret
      exact ⟨-1, rfl, .inl ⟨rfl, HN.out⟩, HB.out⟩
end Go.Proofs.Ytcmgdnhllkfjcaa.Reg
