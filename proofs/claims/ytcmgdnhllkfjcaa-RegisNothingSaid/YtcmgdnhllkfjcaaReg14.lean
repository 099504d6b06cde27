/- RegisNothing (chapter 21): the walk of the law. Proved for all numbers, no further condition. -/
import Derived.Test.YtcmgdnhllkfjcaaReg16
namespace Go.Proofs.Ytcmgdnhllkfjcaa.Reg
open Go.RowKit Go.Proofs.YtcmgdnhllkfjcaaW.PrintWords Go.Proofs.YtcmgdnhllkfjcaaW.PrintLast Go.Proofs.YtcmgdnhllkfjcaaW.PrintMore Go.Proofs.Ytcmgdnhllkfjcaa.Objs Go.Proofs.Ytcmgdnhllkfjcaa.PRegisPlays
set_option linter.unusedVariables false
set_option linter.unusedSimpArgs false

theorem code_one (w : World) : Calls Try.prog 16 #[.iface 56 (.int .i64 1)] w fun e w' => e = .returned (.int .i64 1) ∧ w' = w := by
  refine (code_num 1 w).mono ?_
  rintro e w' ⟨he, hw⟩
  exact ⟨he, hw⟩
set_option maxRecDepth 100000 in
set_option maxHeartbeats 1600000 in
theorem nothing_calls (n : Int) (w : World) : Calls Try.prog 7 #[.int .i64 n] w fun e w' => e = .returned (.bool true) ∧ Below w.heap.size w w' := by
  go_enter Try.func7, Try.ntmps7
  go_wp2_with fail
  refine (begin_nil w).mono ?_
  rintro e w' ⟨rfl, hw'⟩
  subst hw'
  go_wp2_with fail
  refine (code_one _).mono ?_
  rintro e w' ⟨rfl, hw'⟩
  subst hw'
  go_wp2_with fail
  refine (end_nil n _).mono ?_
  rintro e w1 ⟨rfl, hb1⟩
  have HB := Lib.hid hb1
  clear hb1
  go_wp2_with fail
  refine (code_one _).mono ?_
  rintro e w' ⟨rfl, hw'⟩
  subst hw'
  go_wp2_with fail
  refine (advance_nil _).mono ?_
  rintro e w' ⟨rfl, hw'⟩
  subst hw'
  go_wp2_with fail
  refine (epoch_nil _).mono ?_
  rintro e w' ⟨rfl, hw'⟩
  subst hw'
  go_wp2_with fail
  refine (ready_nil n _).mono ?_
  rintro e w' ⟨rfl, hw'⟩
  subst hw'
  go_wp2_with fail
  refine (waits_nil n _).mono ?_
  rintro e w' ⟨rfl, hw'⟩
  subst hw'
  go_wp2_with fail
  refine (oldest_nil _).mono ?_
  rintro e w' ⟨rfl, hw'⟩
  subst hw'
  go_wp2_with fail
  refine (len_nil _).mono ?_
  rintro e w' ⟨rfl, hw'⟩
  subst hw'
  go_wp2_with fail
  refine (awake_calls _).mono ?_
  rintro e w2 ⟨rfl, hb2⟩
  have HB2 := Lib.hid (HB.out.trans (hb2.mono HB.out.size))
  clear hb2
  go_wp2
  go_ret
  exact ⟨rfl, HB2.out⟩
end Go.Proofs.Ytcmgdnhllkfjcaa.Reg
