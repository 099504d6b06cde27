/- RegisPlays (chapter 21): the walk of the law. Proved for all steps and all epochs, no further condition. -/
import Derived.Test.YtcmgdnhllkfjcaaReg12
import Derived.Test.YtcmgdnhllkfjcaaReg16
namespace Go.Proofs.Ytcmgdnhllkfjcaa.Reg
open Go.RowKit Go.Proofs.YtcmgdnhllkfjcaaW.PrintWords Go.Proofs.YtcmgdnhllkfjcaaW.PrintLast Go.Proofs.YtcmgdnhllkfjcaaW.PrintMore Go.Proofs.Ytcmgdnhllkfjcaa.Objs Go.Proofs.Ytcmgdnhllkfjcaa.PRegisPlays
set_option linter.unusedVariables false
set_option linter.unusedSimpArgs false

/-- Both registries are the same, behind n steps. -/
def Both (w0 w : World) (B p q n : Nat) : Prop := ∃ v vt va s, Rp w B p v s ∧ Rr w B q vt va s ∧ s.Ok n ∧ Below B w0 w
theorem Rr.new (w : World) (B : Nat) : Rr (w.alloc (.cells #[.int .i64 1, .int .i64 0, .slice none 0 0, .slice none 0 0] 29)) B w.heap.size (.slice none 0 0) (.slice none 0 0) ⟨[], 0, 0⟩ :=
  ⟨At.new w [.int .i64 1, .int .i64 0, .slice none 0 0, .slice none 0 0] 29, Kd.R_nil _ _ _ _ _, Kd.R_nil _ _ _ _ _⟩
/-- Both new. -/
theorem Both.new (w : World) : Both w ((w.alloc (.cells #[.slice none 0 0, .int .i64 0, .int .i64 0] 40)).alloc (.cells #[.int .i64 1, .int .i64 0, .slice none 0 0, .slice none 0 0] 29)) w.heap.size w.heap.size (w.heap.size + 1) 0 := by
  refine ⟨.slice none 0 0, .slice none 0 0, .slice none 0 0, ⟨[], 0, 0⟩, Rg.but (Rg.new w) (But.ofAlloc _ _) (fun h => h) (fun _ _ h => h), ?_, St.Ok.new, below_alloc (below_alloc (Below.refl _ _) _) _⟩
  have := Rr.new (w.alloc (.cells #[.slice none 0 0, .int .i64 0, .int .i64 0] 40)) w.heap.size
  simpa using this
def PlaysAt (w0 : World) (B p q n : Nat) (i : Value) (w : World) : Prop := ∃ k : Nat, k ≤ n ∧ i = .int .i64 k ∧ Both w0 w B p q k
set_option maxRecDepth 100000 in
set_option maxHeartbeats 1600000 in
theorem plays_calls (A : Option Addr) (c : Nat) (l : List S55) (epoch : Int) (w : World) (hC : Kd.C k55 w A l.length l) (hc : l.length ≤ c) :
    Calls Try.prog 6 #[.slice A l.length c, .int .i64 epoch] w fun e w' => e = .returned (.bool true) ∧ Below w.heap.size w w' := by
  have hn : l.length ≤ 9223372036854775807 := hC.2.1
  have HC := Lib.hid hC
  clear hC
  by_cases hbig : 200 < l.length
  · go_enter Try.func6, Try.ntmps6
    go_wp2_with fail
    refine (awake_calls w).mono ?_
    rintro e w' ⟨rfl, hb⟩
    have HB := Lib.hid hb
    clear hb
    go_wp2
    go_ret
    exact ⟨rfl, HB.out⟩
  · have HN := Lib.hid (Both.new w)
    go_enter Try.func6, Try.ntmps6
    go_wp2_with fail
    refine (new_calls w).mono ?_
    rintro e w' ⟨rfl, hw'⟩
    subst hw'
    go_wp2
    go_loopw [7] (fun i wl => PlaysAt w w.heap.size w.heap.size (w.heap.size + 1) l.length i wl) (fun i _ => l.length - (intOf i).toNat)
    case atStart => exact ⟨0, Nat.zero_le _, rfl, HN.out⟩
    case round =>
      obtain ⟨k, hk, rfl, v, vt, va, s, hp, hr, hs, hb⟩ := hrel
      have HP := Lib.hid hp
      have HR := Lib.hid hr
      have HS := Lib.hid hs
      have HB := Lib.hid hb
      clear hp hr hs hb
      by_cases hlt : k < l.length
      · obtain ⟨ad, hA, k0, k1⟩ := at_T55 (Kd.C_below HC.out HB.out) k (by omega) (by omega)
        subst hA
        have e1 : ((k : Int).toNat * 2) = k * 2 := by simp
        rw [e1] at k0 k1
        obtain ⟨x, hx⟩ : ∃ x, rd_T55 l k = x := ⟨_, rfl⟩
        rw [hx] at k0 k1
        clear hx e1
        go_wp2_with fail
        refine (does_calls w.heap.size w.heap.size (w.heap.size + 1) v vt va s s x.f0 x.f1 wr HP.out HR.out HB.out.size (Nat.le_refl _) (Nat.le_succ _) HS.out HS.out (by omega) (by omega)).mono ?_
        rintro e w2 ⟨b, rfl, hbt, v', vt', va', hp', hr', hbel⟩
        obtain rfl := hbt rfl
        have HP2 := Lib.hid hp'
        have HR2 := Lib.hid hr'
        have HB2 := Lib.hid (HB.out.trans hbel)
        have HS2 := Lib.hid (HS.out.step x.f0 x.f1)
        clear hbt hp' hr' hbel
        go_wp2_with fail
        refine (shows_calls w.heap.size w.heap.size (w.heap.size + 1) v' vt' va' (s.step x.f0 x.f1) epoch w2 HP2.out HR2.out HS2.out (by omega)).mono ?_
        rintro e w3 ⟨rfl, hb3⟩
        have hrel3 : PlaysAt w w.heap.size w.heap.size (w.heap.size + 1) l.length (.int .i64 ((k + 1 : Nat) : Int)) w3 :=
          ⟨k + 1, by omega, rfl, v', vt', va', s.step x.f0 x.f1, Rg.but HP2.out (But.ofBelow (F := fun _ => False) hb3) (fun h => h) (fun _ _ h => h), Rq.but HR2.out (But.ofBelow (F := fun _ => False) hb3) (fun h => h) (fun _ _ h => h) (fun _ _ h => h), HS2.out, HB2.out.trans (hb3.mono HB2.out.size)⟩
        have HREL := Lib.hid hrel3
        clear hb3 hrel3
        go_wp2
        go_roundw
        case rel => exact (by have h := HREL.out; rw [show ((k + 1 : Nat) : Int) = (k : Int) + 1 from by omega] at h; exact h)
        case measure => simp [intOf]; omega
      · obtain rfl : k = l.length := by omega
        go_wp2_with fail
        refine (awake_calls wr).mono ?_
        rintro e w2 ⟨rfl, hb2⟩
        have HB2 := Lib.hid (HB.out.trans (hb2.mono HB.out.size))
        clear hb2
        go_wp2
        go_ret
        exact ⟨rfl, HB2.out⟩
end Go.Proofs.Ytcmgdnhllkfjcaa.Reg
