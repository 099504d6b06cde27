/- Regis (chapter 21): what the document fixes of the registry. -/
import Derived.Test.YtcmgdnhllkfjcaaReg11
namespace Go.Proofs.Ytcmgdnhllkfjcaa.Reg
open Go.RowKit Go.Proofs.YtcmgdnhllkfjcaaW.PrintWords Go.Proofs.YtcmgdnhllkfjcaaW.PrintLast Go.Proofs.YtcmgdnhllkfjcaaW.PrintMore Go.Proofs.Ytcmgdnhllkfjcaa.Objs Go.Proofs.Ytcmgdnhllkfjcaa.PRegisPlays
set_option linter.unusedVariables false
set_option linter.unusedSimpArgs false

set_option maxRecDepth 100000 in
set_option maxHeartbeats 8000000 in
/-- What the document fixes. -/
theorem awake_calls (w : World) : Calls Try.prog 8 #[] w fun e w' => e = .returned (.bool true) ∧ Below w.heap.size w w' := by
  have HG := Lib.hid (Rg.new w)
  have HB := Lib.hid (below_alloc (Below.refl _ w) (.cells #[.slice none 0 0, .int .i64 0, .int .i64 0] 40))
  go_enter Try.func8, Try.ntmps8
  go_wp2_with fail
  refine (new_calls w).mono ?_
  rintro e w' ⟨rfl, hw'⟩
  subst hw'
  obtain ⟨p, hp⟩ : ∃ p, w.heap.size = p := ⟨_, rfl⟩
  have hpp : p ≤ w.heap.size := by omega
  rw [hp] at HG ⊢
  rw [hp] at HB
  have HP := Lib.hid hp
  clear hp
  obtain ⟨w1, hw1⟩ : ∃ w1, w.alloc (.cells #[.slice none 0 0, .int .i64 0, .int .i64 0] 40) = w1 := ⟨_, rfl⟩
  rw [hw1] at HG HB ⊢
  clear hw1
  have hs1 := Nat.le_trans hpp HB.out.size
  go_wp2_with fail
  refine (begin_calls p p _ [] 0 0 w1 HG.out (by simp) hs1 (by omega) (by omega)).mono ?_
  rintro e w2 ⟨rfl, v2, hg2, hb2, _⟩
  have HG2 := Lib.hid (show Rg w2 p p v2 [⟨1, 1⟩] 0 1 from hg2)
  have HB2 := Lib.hid (HB.out.trans (hb2.below hs1 (fun k hk => hk.elim (fun e => by omega) (fun e => by simp [Value.ownBlock] at e))))
  clear hg2 hb2
  go_wp2_with fail
  refine (advance_calls p p v2 [⟨1, 1⟩] 0 1 w2 HG2.out (by omega)).mono ?_
  rintro e w3 ⟨rfl, hg3, hb3⟩
  have HG3 := Lib.hid (show Rg w3 p p v2 [⟨1, 1⟩] 1 1 from hg3)
  have HB3 := Lib.hid (HB2.out.trans (hb3.below (Nat.le_trans hpp HB2.out.size) (fun k hk => by omega)))
  clear hg3 hb3
  have r1 : ready [⟨1, 1⟩] 1 1 = false := by decide
  have R1 := Lib.hid r1
  clear r1
  go_wp2_with fail
  refine (ready_calls p p v2 [⟨1, 1⟩] 1 1 1 w3 HG3.out (by simp) (by omega)).mono ?_
  rintro e w4 ⟨rfl, hb4⟩
  rw [R1.out]
  have HG4 := Lib.hid (HG3.out.but (But.ofBelow (F := fun _ => False) hb4) (fun h => h) (fun _ _ h => h))
  have HB4 := Lib.hid (HB3.out.trans (hb4.mono (Nat.le_trans hpp HB3.out.size)))
  clear hb4
  go_wp2_with fail
  refine (end_calls p p v2 [⟨1, 1⟩] 1 1 1 w4 HG4.out).mono ?_
  rintro e w5 ⟨he, v5, hg5, hb5, _⟩
  have he2 : e = .returned .nilIface := he
  subst he2
  have HG5 := Lib.hid (show Rg w5 p p v5 [] 1 1 from hg5)
  have HB5 := Lib.hid (HB4.out.trans (hb5.below (Nat.le_trans hpp HB4.out.size) (Rp.base (s := ⟨[⟨1, 1⟩], 1, 1⟩) HG4.out (Nat.le_refl _))))
  clear hg5 hb5 he
  have hn := run_eql_nil_nil (P := Try.prog) w5 42 (by rw [Try.underlying42]; rfl)
  go_wp2_with fail
  refine (ready_calls p p v5 [] 1 1 1 w5 HG5.out (by simp) (by omega)).mono ?_
  rintro e w6 ⟨rfl, hb6⟩
  have r2 : ready [] 1 1 = true := by decide
  rw [r2]
  have HG6 := Lib.hid (HG5.out.but (But.ofBelow (F := fun _ => False) hb6) (fun h => h) (fun _ _ h => h))
  have HB6 := Lib.hid (HB5.out.trans (hb6.mono (Nat.le_trans hpp HB5.out.size)))
  clear hb6 r2
  go_wp2_with fail
  refine (epoch_calls p p v5 [] 1 1 w6 HG6.out (by omega)).mono ?_
  rintro e w' ⟨rfl, hw'⟩
  subst hw'
  go_wp2
  go_ret
  refine ⟨rfl, ?_⟩
  rw [HP.out]
  exact HB6.out
end Go.Proofs.Ytcmgdnhllkfjcaa.Reg
