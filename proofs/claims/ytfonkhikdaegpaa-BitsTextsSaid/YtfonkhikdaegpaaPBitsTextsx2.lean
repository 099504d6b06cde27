/- Functions of the given program told as plain Lean functions, and that the code does what they tell: written by a program of this session over the print of the kit, with some contracts proved by hand. Conditions: those typed at each theorem. -/
import Derived.Test.YtfonkhikdaegpaaPBitsTextsx0
import Derived.Test.YtfonkhikdaegpaaPBitsTextsx1
namespace Go.Proofs.Ytfonkhikdaegpaa.PBitsTexts
open Go.RowKit Go.Proofs.YtfonkhikdaegpaaW.PrintWords Go.Proofs.YtfonkhikdaegpaaW.PrintLast Go.Proofs.YtfonkhikdaegpaaW.PrintMore
attribute [local go_sem] max2_int min2_int max_two min_two max_three min_three max_four min_four   -- for this text's walks alone
set_option linter.unusedVariables false
set_option linter.unusedSimpArgs false

/-! ### bits_Unvarint: function 12 -/
mutual
def bits_Unvarint.l0 : Nat → List Int → Int → Int → Option (Int × Int)
  | 0, _, _, _ => none
  | k + 1, x0, x2, x3 => if x3 < 10 then (bits_Unvarint.j1 k x0 x2 x3 (decide (x3 < (x0.length : Int)))) else (bits_Unvarint.j1 k x0 x2 x3 false)
def bits_Unvarint.j1 : Nat → List Int → Int → Int → Bool → Option (Int × Int)
  | 0, _, _, _, _ => none
  | k + 1, x0, x2, x3, x12 => if x12 = true then (if 0 ≤ x3 then (if x3 < (x0.length : Int) then (if 0 ≤ (wrap64 (7 * x3)) then (if (rd x0 x3) ≥ 128 then (bits_Unvarint.l0 k x0 (Go.bits .or .u64 x2 (shl .u64 (IntKind.u64.wrap (Go.bits .andNot .u8 (rd x0 x3) 128)) (wrap64 (7 * x3)))) (wrap64 (x3 + 1))) else (if (wrap64 (x3 + 1)) = 10 then (bits_Unvarint.j2 k (Go.bits .or .u64 x2 (shl .u64 (IntKind.u64.wrap (Go.bits .andNot .u8 (rd x0 x3) 128)) (wrap64 (7 * x3)))) (wrap64 (x3 + 1)) (rd x0 x3) (decide ((rd x0 x3) > 1))) else (bits_Unvarint.j2 k (Go.bits .or .u64 x2 (shl .u64 (IntKind.u64.wrap (Go.bits .andNot .u8 (rd x0 x3) 128)) (wrap64 (7 * x3)))) (wrap64 (x3 + 1)) (rd x0 x3) false))) else (none)) else (none)) else (none)) else (some (0, 0))
def bits_Unvarint.j2 : Nat → Int → Int → Int → Bool → Option (Int × Int)
  | 0, _, _, _, _ => none
  | k + 1, x2, x3, x4, x30 => if x30 = true then (some (0, 0)) else (if x3 > 1 then (if x4 = 0 then (some (0, 0)) else (some (x2, x3))) else (some (x2, x3)))
end
def bits_Unvarint.f (k : Nat) (l0 : List Int) : Option (Int × Int) := bits_Unvarint.l0 k l0 0 0
theorem bits_Unvarint.mono_l : ∀ k, (∀ y0 y1 y2, LeO (bits_Unvarint.l0 k y0 y1 y2) (bits_Unvarint.l0 (k + 1) y0 y1 y2)) ∧ (∀ y0 y1 y2 y3, LeO (bits_Unvarint.j1 k y0 y1 y2 y3) (bits_Unvarint.j1 (k + 1) y0 y1 y2 y3)) ∧ (∀ y0 y1 y2 y3, LeO (bits_Unvarint.j2 k y0 y1 y2 y3) (bits_Unvarint.j2 (k + 1) y0 y1 y2 y3))
  | 0 => ⟨fun _ _ _ r h => by simp [bits_Unvarint.l0] at h, fun _ _ _ _ r h => by simp [bits_Unvarint.j1] at h, fun _ _ _ _ r h => by simp [bits_Unvarint.j2] at h⟩
  | k + 1 => by
    obtain ⟨ih0, ih1, ih2⟩ := bits_Unvarint.mono_l k
    refine ⟨?_, ?_, ?_⟩
    · intro y0 y1 y2
      unfold bits_Unvarint.l0
      repeat' first
      | (with_reducible exact ih0 _ _ _)
      | (with_reducible exact ih1 _ _ _ _)
      | (with_reducible exact ih2 _ _ _ _)
      | (with_reducible exact LeO.refl _)
      | (with_reducible exact LeO.none _)
      | (with_reducible refine LeO.ite ?_ ?_)
      | (with_reducible refine LeO.bind ?_ (fun _ => ?_))
      | exact ih0 _ _ _
      | exact ih1 _ _ _ _
      | exact ih2 _ _ _ _
      | exact LeO.none _
      | refine LeO.ite ?_ ?_
      | refine LeO.bind ?_ (fun _ => ?_)
    · intro y0 y1 y2 y3
      unfold bits_Unvarint.j1
      repeat' first
      | (with_reducible exact ih0 _ _ _)
      | (with_reducible exact ih1 _ _ _ _)
      | (with_reducible exact ih2 _ _ _ _)
      | (with_reducible exact LeO.refl _)
      | (with_reducible exact LeO.none _)
      | (with_reducible refine LeO.ite ?_ ?_)
      | (with_reducible refine LeO.bind ?_ (fun _ => ?_))
      | exact ih0 _ _ _
      | exact ih1 _ _ _ _
      | exact ih2 _ _ _ _
      | exact LeO.none _
      | refine LeO.ite ?_ ?_
      | refine LeO.bind ?_ (fun _ => ?_)
    · intro y0 y1 y2 y3
      unfold bits_Unvarint.j2
      repeat' first
      | (with_reducible exact ih0 _ _ _)
      | (with_reducible exact ih1 _ _ _ _)
      | (with_reducible exact ih2 _ _ _ _)
      | (with_reducible exact LeO.refl _)
      | (with_reducible exact LeO.none _)
      | (with_reducible refine LeO.ite ?_ ?_)
      | (with_reducible refine LeO.bind ?_ (fun _ => ?_))
      | exact ih0 _ _ _
      | exact ih1 _ _ _ _
      | exact ih2 _ _ _ _
      | exact LeO.none _
      | refine LeO.ite ?_ ?_
      | refine LeO.bind ?_ (fun _ => ?_)
theorem bits_Unvarint.mono : ∀ a0 k, LeO (bits_Unvarint.f k a0) (bits_Unvarint.f (k + 1) a0) := by
  intro a0 k
  obtain ⟨ih0, ih1, ih2⟩ := bits_Unvarint.mono_l k
  unfold bits_Unvarint.f
  repeat' first
      | (with_reducible exact ih0 _ _ _)
      | (with_reducible exact ih1 _ _ _ _)
      | (with_reducible exact ih2 _ _ _ _)
      | (with_reducible exact LeO.refl _)
      | (with_reducible exact LeO.none _)
      | (with_reducible refine LeO.ite ?_ ?_)
      | (with_reducible refine LeO.bind ?_ (fun _ => ?_))
      | exact ih0 _ _ _
      | exact ih1 _ _ _ _
      | exact ih2 _ _ _ _
      | exact LeO.none _
      | refine LeO.ite ?_ ?_
      | refine LeO.bind ?_ (fun _ => ?_)
set_option maxHeartbeats 8000000 in
set_option maxRecDepth 100000 in
theorem bits_Unvarint.calls (k : Nat) (A0 : Option Addr) (c0 : Nat) (l0 : List Int) (r1 : Int) (r2 : Int) (w : World) (hr0 : Kd.C (Kd.int .u8) w A0 l0.length l0) (hc0 : l0.length ≤ c0) (h : bits_Unvarint.f k l0 = some (r1, r2)) :
    Calls Try.prog 12 #[.slice A0 l0.length c0] w fun e w' => e = .returned (.tuple #[.int .u64 r1, .int .i64 r2]) ∧ Drawn0 w w' := by
  have HR0 := Aside0.mk hr0
  have HC0 := Aside0.mk hc0
  clear hr0 hc0
  have H : (bits_Unvarint.l0 k l0 0 0) = some (r1, r2) := h
  clear h
  have H' := Aside0.mk H
  clear H
  go_enter Try.func12, Try.ntmps12
  go_wp2
  go_loopg [2, 3] k (fun kq v2 v3 w' => ∃ (x2_1 : Int) (x3_1 : Int), v2 = .int .u64 x2_1 ∧ v3 = .int .i64 x3_1 ∧ Aside0 (bits_Unvarint.l0 kq l0 x2_1 x3_1 = some (r1, r2)) ∧ Aside0 (kq ≤ k) ∧ Drawn0 w w')
  case atStart => exact ⟨(0), (0), (by first | rfl | (simp; done) | (simp [*]; done)), (by first | rfl | (simp; done) | (simp [*]; done)), H', ⟨Nat.le_refl _⟩, by repeat (first | exact Drawn0.refl _ | apply Drawn0.step)⟩
  case round =>
    clear H'
    try clear c1
    obtain ⟨x2_1, x3_1, rfl, rfl, HA, HK1, ⟨m1, rfl⟩⟩ := hrel
    cases gk with
    | zero => exact absurd HA.out (by simp [bits_Unvarint.l0])
    | succ k1 =>
      have H := HA.out
      clear HA
      simp only [bits_Unvarint.l0] at H
      have HC2 := Aside0.mk H
      clear H
      go_upto_region 1 with (fail)
      go_cut [12] (fun v12 wc => ∃ (kq : Nat) (x12_1 : Bool), v12 = .bool x12_1 ∧ Aside0 (bits_Unvarint.j1 kq l0 x2_1 x3_1 x12_1 = some (r1, r2)) ∧ Aside0 (kq ≤ k1) ∧ Drawn0 w wc)
      case first =>
        have H := HC2.out
        clear HC2
        by_cases c3 : x3_1 < 10
        · rw [if_pos c3] at H
          have c3b0 : decide (x3_1 < 10) = true := decide_eq_true c3
          clear c3
          (first | rw [c3b0] | (simp only [i64_w, i32_w]; rw [c3b0]) | skip)
          have H' := Aside0.mk H
          clear H
          go_wp2
          go_meet
          case rel => exact ⟨_, (decide (x3_1 < (l0.length : Int))), (by first | rfl | (simp; done) | (simp [*]; done)), H', ⟨by have := HK1.out; first | omega | exact Nat.le_refl _⟩, by repeat (first | exact Drawn0.refl _ | apply Drawn0.step)⟩
        · rw [if_neg c3] at H
          have c3b0 : decide (x3_1 < 10) = false := decide_eq_false c3
          clear c3
          (first | rw [c3b0] | (simp only [i64_w, i32_w]; rw [c3b0]) | skip)
          have H' := Aside0.mk H
          clear H
          go_wp2
          go_meet
          case rel => exact ⟨_, (false), (by first | rfl | (simp; done) | (simp [*]; done)), H', ⟨by have := HK1.out; first | omega | exact Nat.le_refl _⟩, by repeat (first | exact Drawn0.refl _ | apply Drawn0.step)⟩
      case rest =>
        clear HC2
        try clear c1
        try clear p2
        try clear c3
        try clear c3b0
        obtain ⟨kq, x12_1, rfl, HA, HJ1, ⟨mc1, rfl⟩⟩ := hcut
        cases kq with
        | zero => exact absurd HA.out (by simp [bits_Unvarint.j1])
        | succ kj1 =>
          have H := HA.out
          clear HA
          simp only [bits_Unvarint.j1] at H
          by_cases c4 : x12_1 = true
          · subst c4
            have H1 : (if 0 ≤ x3_1 then (if x3_1 < (l0.length : Int) then (if 0 ≤ (wrap64 (7 * x3_1)) then (if (rd l0 x3_1) ≥ 128 then (bits_Unvarint.l0 kj1 l0 (Go.bits .or .u64 x2_1 (shl .u64 (IntKind.u64.wrap (Go.bits .andNot .u8 (rd l0 x3_1) 128)) (wrap64 (7 * x3_1)))) (wrap64 (x3_1 + 1))) else (if (wrap64 (x3_1 + 1)) = 10 then (bits_Unvarint.j2 kj1 (Go.bits .or .u64 x2_1 (shl .u64 (IntKind.u64.wrap (Go.bits .andNot .u8 (rd l0 x3_1) 128)) (wrap64 (7 * x3_1)))) (wrap64 (x3_1 + 1)) (rd l0 x3_1) (decide ((rd l0 x3_1) > 1))) else (bits_Unvarint.j2 kj1 (Go.bits .or .u64 x2_1 (shl .u64 (IntKind.u64.wrap (Go.bits .andNot .u8 (rd l0 x3_1) 128)) (wrap64 (7 * x3_1)))) (wrap64 (x3_1 + 1)) (rd l0 x3_1) false))) else (none)) else (none)) else (none)) = some (r1, r2) := by rw [if_pos rfl] at H; exact H
            clear H
            have H := H1
            clear H1
            by_cases c5 : 0 ≤ x3_1
            · rw [if_pos c5] at H
              have c5b0 : decide (0 ≤ x3_1) = true := decide_eq_true c5
              clear c5
              by_cases c6 : x3_1 < (l0.length : Int)
              · rw [if_pos c6] at H
                have c6b0 : decide (x3_1 < (l0.length : Int)) = true := decide_eq_true c6
                clear c6
                obtain ⟨ji7, hji7⟩ : ∃ j_ : Int, (wrap64 (7 * x3_1)) = j_ := ⟨_, rfl⟩
                replace H : (if 0 ≤ (ji7) then (if (rd l0 x3_1) ≥ 128 then (bits_Unvarint.l0 kj1 l0 (Go.bits .or .u64 x2_1 (shl .u64 (IntKind.u64.wrap (Go.bits .andNot .u8 (rd l0 x3_1) 128)) (ji7))) (wrap64 (x3_1 + 1))) else (if (wrap64 (x3_1 + 1)) = 10 then (bits_Unvarint.j2 kj1 (Go.bits .or .u64 x2_1 (shl .u64 (IntKind.u64.wrap (Go.bits .andNot .u8 (rd l0 x3_1) 128)) (ji7))) (wrap64 (x3_1 + 1)) (rd l0 x3_1) (decide ((rd l0 x3_1) > 1))) else (bits_Unvarint.j2 kj1 (Go.bits .or .u64 x2_1 (shl .u64 (IntKind.u64.wrap (Go.bits .andNot .u8 (rd l0 x3_1) 128)) (ji7))) (wrap64 (x3_1 + 1)) (rd l0 x3_1) false))) else (none)) = some (r1, r2) := by first | (rw [hji7] at H; exact H) | (simp only [hji7] at H ⊢; exact H)
                have hji7w : (IntKind.i64.wrap (7 * x3_1)) = ji7 := (i64_w _).trans hji7
                by_cases c8 : 0 ≤ (ji7)
                · rw [if_pos c8] at H
                  have c8b0 := eq_true c8
                  have c8b1 : decide (0 ≤ (ji7)) = true := decide_eq_true c8
                  clear c8
                  obtain ⟨ji9, hji9⟩ : ∃ j_ : Int, (shl .u64 (IntKind.u64.wrap (Go.bits .andNot .u8 (rd l0 x3_1) 128)) (ji7)) = j_ := ⟨_, rfl⟩
                  replace H : (if (rd l0 x3_1) ≥ 128 then (bits_Unvarint.l0 kj1 l0 (Go.bits .or .u64 x2_1 (ji9)) (wrap64 (x3_1 + 1))) else (if (wrap64 (x3_1 + 1)) = 10 then (bits_Unvarint.j2 kj1 (Go.bits .or .u64 x2_1 (ji9)) (wrap64 (x3_1 + 1)) (rd l0 x3_1) (decide ((rd l0 x3_1) > 1))) else (bits_Unvarint.j2 kj1 (Go.bits .or .u64 x2_1 (ji9)) (wrap64 (x3_1 + 1)) (rd l0 x3_1) false))) = some (r1, r2) := by first | (rw [hji9] at H; exact H) | (simp only [hji9] at H ⊢; exact H)
                  have hji9_ : (IntKind.u64.wrap ((IntKind.u64.wrap (Go.bits .andNot .u8 (rd l0 x3_1) 128)) * 2 ^ min (ji7).toNat 64)) = ji9 := hji9
                  have hji9z : (ji7) ≤ 64 → (IntKind.u64.wrap ((IntKind.u64.wrap (Go.bits .andNot .u8 (rd l0 x3_1) 128)) * 2 ^ (ji7).toNat)) = ji9 := shl_small hji9
                  by_cases c10 : (rd l0 x3_1) ≥ 128
                  · rw [if_pos c10] at H
                    have c10b0 : decide (128 ≤ (rd l0 x3_1)) = true := decide_eq_true c10
                    clear c10
                    have H' := Aside0.mk H
                    clear H
                    have p127 : 0 ≤ (x3_1 : Int) := of_decide_eq_true (by first | (with_reducible assumption) | assumption)
                    have q127 : x3_1 < (l0.length : Int) := of_decide_eq_true (by first | (with_reducible assumption) | assumption)
                    obtain ⟨ad127, e127, hx127_0⟩ := Kd.at_int HR0.out x3_1 p127 q127
                    cases e127
                    replace p127 := eq_true p127
                    replace q127 := eq_true q127
                    go_wp2
                    go_roundg kj1
                    case measure => have := HK1.out; have := HJ1.out; omega
                    case rel => exact ⟨(Go.bits .or .u64 x2_1 (ji9)), (wrap64 (x3_1 + 1)), (by first | rfl | (simp; done) | (simp only [← hji9] <;> (first | rfl | simp)) | (simp [*]; done)), (by first | rfl | (simp; done) | (simp [*]; done)), H', ⟨by have := HK1.out; have := HJ1.out; omega⟩, by repeat (first | exact Drawn0.refl _ | apply Drawn0.step)⟩
                  · rw [if_neg c10] at H
                    have c10b0 : decide (128 ≤ (rd l0 x3_1)) = false := decide_eq_false c10
                    clear c10
                    have HC11 := Aside0.mk H
                    clear H
                    have p127 : 0 ≤ (x3_1 : Int) := of_decide_eq_true (by first | (with_reducible assumption) | assumption)
                    have q127 : x3_1 < (l0.length : Int) := of_decide_eq_true (by first | (with_reducible assumption) | assumption)
                    obtain ⟨ad127, e127, hx127_0⟩ := Kd.at_int HR0.out x3_1 p127 q127
                    cases e127
                    replace p127 := eq_true p127
                    replace q127 := eq_true q127
                    go_upto_region 6 with (fail)
                    go_cut [30] (fun v30 wc => ∃ (kq : Nat) (x30_10 : Bool), v30 = .bool x30_10 ∧ Aside0 (bits_Unvarint.j2 kq (Go.bits .or .u64 x2_1 (ji9)) (wrap64 (x3_1 + 1)) (rd l0 x3_1) x30_10 = some (r1, r2)) ∧ Aside0 (kq ≤ kj1) ∧ Drawn0 w wc)
                    case first =>
                      have H := HC11.out
                      clear HC11
                      by_cases c12 : (wrap64 (x3_1 + 1)) = 10
                      · rw [if_pos c12] at H
                        have c12b0 : ((wrap64 (x3_1 + 1)) == 10) = true := beq_iff_eq.mpr c12
                        have c12b1 : ((wrap64 (x3_1 + 1)) != 10) = false := bne_eq_false_iff_eq.mpr c12
                        clear c12
                        (first | rw [c12b0] | (simp only [i64_w, i32_w]; rw [c12b0]) | skip)
                        have H' := Aside0.mk H
                        clear H
                        go_wp2
                        go_meet
                        case rel => exact ⟨_, (decide ((rd l0 x3_1) > 1)), (by first | rfl | (simp; done) | (simp [*]; done)), H', ⟨by have := HK1.out; have := HJ1.out; first | omega | exact Nat.le_refl _⟩, by repeat (first | exact Drawn0.refl _ | apply Drawn0.step)⟩
                      · rw [if_neg c12] at H
                        have c12b0 : ((wrap64 (x3_1 + 1)) == 10) = false := beq_eq_false_iff_ne.mpr c12
                        have c12b1 : ((wrap64 (x3_1 + 1)) != 10) = true := bne_iff_ne.mpr c12
                        (first | rw [c12b0] | (simp only [i64_w, i32_w]; rw [c12b0]) | skip)
                        have H' := Aside0.mk H
                        clear H
                        go_wp2
                        go_meet
                        case rel => exact ⟨_, (false), (by first | rfl | (simp; done) | (simp [*]; done)), H', ⟨by have := HK1.out; have := HJ1.out; first | omega | exact Nat.le_refl _⟩, by repeat (first | exact Drawn0.refl _ | apply Drawn0.step)⟩
                    case rest =>
                      clear HC11
                      try clear c1
                      try clear p1
                      try clear q1
                      try clear hx1
                      try clear p2
                      try clear c3
                      try clear c3b0
                      try clear c4
                      try clear c5
                      try clear c5b0
                      try clear c6
                      try clear c6b0
                      try clear p6
                      try clear c8
                      try clear c8b0
                      try clear c8b1
                      try clear c10
                      try clear c10b0
                      try clear c12
                      try clear c12b0
                      try clear c12b1
                      try clear p12
                      try clear q12
                      try clear hx12
                      try clear hx127_0
                      try clear p127
                      try clear p2
                      try clear q127
                      obtain ⟨kq, x30_10, rfl, HA, HJ10, ⟨mc10, rfl⟩⟩ := hcut
                      cases kq with
                      | zero => exact absurd HA.out (by simp [bits_Unvarint.j2])
                      | succ kj10 =>
                        have H := HA.out
                        clear HA
                        simp only [bits_Unvarint.j2] at H
                        by_cases c13 : x30_10 = true
                        · subst c13
                          have H1 : (some (0, 0)) = some (r1, r2) := by rw [if_pos rfl] at H; exact H
                          clear H
                          have H := H1
                          clear H1
                          simp only [Option.some.injEq, Prod.mk.injEq] at H
                          obtain ⟨rfl, rfl⟩ := H
                          go_wp2
                          go_ret2
                          exact ⟨by first | rfl | (simp; done) | (simp only [← hji7, ← hji9] <;> (first | rfl | simp)) | (simp [*]; done), by repeat (first | exact Drawn0.refl _ | apply Drawn0.step)⟩
                        · replace c13 := Bool.eq_false_iff.mpr c13
                          subst c13
                          have H1 : (if (wrap64 (x3_1 + 1)) > 1 then (if (rd l0 x3_1) = 0 then (some (0, 0)) else (some ((Go.bits .or .u64 x2_1 (ji9)), (wrap64 (x3_1 + 1))))) else (some ((Go.bits .or .u64 x2_1 (ji9)), (wrap64 (x3_1 + 1))))) = some (r1, r2) := by rw [if_neg (show ¬ (false = true) by decide)] at H; exact H
                          clear H
                          have H := H1
                          clear H1
                          by_cases c14 : (wrap64 (x3_1 + 1)) > 1
                          · rw [if_pos c14] at H
                            have c14b0 : decide (1 < (wrap64 (x3_1 + 1))) = true := decide_eq_true c14
                            clear c14
                            by_cases c15 : (rd l0 x3_1) = 0
                            · rw [if_pos c15] at H
                              have c15b0 : ((rd l0 x3_1) == 0) = true := beq_iff_eq.mpr c15
                              have c15b1 : ((rd l0 x3_1) != 0) = false := bne_eq_false_iff_eq.mpr c15
                              clear c15
                              simp only [Option.some.injEq, Prod.mk.injEq] at H
                              obtain ⟨rfl, rfl⟩ := H
                              go_wp2
                              go_ret2
                              exact ⟨by first | rfl | (simp; done) | (simp only [← hji7, ← hji9] <;> (first | rfl | simp)) | (simp [*]; done), by repeat (first | exact Drawn0.refl _ | apply Drawn0.step)⟩
                            · rw [if_neg c15] at H
                              have c15b0 : ((rd l0 x3_1) == 0) = false := beq_eq_false_iff_ne.mpr c15
                              have c15b1 : ((rd l0 x3_1) != 0) = true := bne_iff_ne.mpr c15
                              simp only [Option.some.injEq, Prod.mk.injEq] at H
                              obtain ⟨rfl, rfl⟩ := H
                              go_wp2
                              go_ret2
                              exact ⟨by first | rfl | (simp; done) | (simp only [← hji7, ← hji9] <;> (first | rfl | simp)) | (simp [*]; done), by repeat (first | exact Drawn0.refl _ | apply Drawn0.step)⟩
                          · rw [if_neg c14] at H
                            have c14b0 : decide (1 < (wrap64 (x3_1 + 1))) = false := decide_eq_false c14
                            clear c14
                            simp only [Option.some.injEq, Prod.mk.injEq] at H
                            obtain ⟨rfl, rfl⟩ := H
                            go_wp2
                            go_ret2
                            exact ⟨by first | rfl | (simp; done) | (simp only [← hji7, ← hji9] <;> (first | rfl | simp)) | (simp [*]; done), by repeat (first | exact Drawn0.refl _ | apply Drawn0.step)⟩
                · rw [if_neg c8] at H
                  exact absurd H (by simp)
              · rw [if_neg c6] at H
                exact absurd H (by simp)
            · rw [if_neg c5] at H
              exact absurd H (by simp)
          · replace c4 := Bool.eq_false_iff.mpr c4
            subst c4
            have H1 : (some (0, 0)) = some (r1, r2) := by rw [if_neg (show ¬ (false = true) by decide)] at H; exact H
            clear H
            have H := H1
            clear H1
            simp only [Option.some.injEq, Prod.mk.injEq] at H
            obtain ⟨rfl, rfl⟩ := H
            go_wp2
            go_ret2
            exact ⟨by first | rfl | (simp; done) | (simp [*]; done), by repeat (first | exact Drawn0.refl _ | apply Drawn0.step)⟩

/-! ### dolmenalike_Code: function 15 -/

section
open Go.Extern.Stop Go.Stop Go.Extern
theorem isTypeOf (v : Value) (w : World) : (Extern.ReflectliteType.typeOf #[.iface 51 v]).run Try.prog w = .ok (.iface 58 (.agg #[.pointer (some ⟨0, 51, none⟩)])) w := by kernel_rfl
def cmpM : Array Value → Sem Value := Extern.ReflectliteType.method fun t => do Go.Extern.Rtype.noPackHeld "Comparable" t; pure (.bool (← typeInfo t).comparable)
theorem isComparable (w : World) : (cmpM #[.agg #[.pointer (some ⟨0, 51, none⟩)]]).run Try.prog w = .ok (.bool true) w := by kernel_rfl
theorem isMethodComparable (v : Value) (w : World) : (Go.method 202 58 v "Comparable").run Try.prog w = .ok (50, v) w := by kernel_rfl
theorem isComp : (Try.prog.info? 51).map (·.comparable) = some true := by kernel_rfl
theorem noIsE (v : Value) (xT : TypeId) (w : World) : (Instr.typeAssert (.iface 51 v) xT 60 true).run Try.prog w = .ok (.tuple #[.nilIface, .bool false]) w := run_typeAssert_lacksB Try.underlying60 (by kernel_rfl) (by kernel_rfl) v xT w
theorem noUnwrapE (v : Value) (xT : TypeId) (w : World) : (Instr.typeAssert (.iface 51 v) xT 63 true).run Try.prog w = .ok (.tuple #[.nilIface, .bool false]) w := run_typeAssert_lacksB Try.underlying63 (by kernel_rfl) (by kernel_rfl) v xT w
theorem noUnwrapsE (v : Value) (xT : TypeId) (w : World) : (Instr.typeAssert (.iface 51 v) xT 65 true).run Try.prog w = .ok (.tuple #[.nilIface, .bool false]) w := run_typeAssert_lacksB Try.underlying65 (by kernel_rfl) (by kernel_rfl) v xT w

/-- errors.Is of two numbers of the type api.Errno: whether they are the same. -/
theorem is_num (a b : Int) (w : World) :
    Calls Try.prog 28 #[.iface 51 (.int .i64 a), .iface 51 (.int .i64 b)] w fun e w' => e = .returned (.bool (a == b)) ∧ w' = w := by
  have h8 := @run_callFunc_extern Try.prog 29 _ Extern.ReflectliteType.typeOf Try.func29 (by kernel_rfl) (by kernel_rfl) (by kernel_rfl) (by kernel_rfl)
  have h32 := @run_callFunc_extern Try.prog 50 _ cmpM Try.func50 (by kernel_rfl) (by kernel_rfl) (by kernel_rfl) (by kernel_rfl)
  have tT := isTypeOf
  have cT := isComparable
  have mR := isMethodComparable
  have nE := noIsE
  have uE := noUnwrapE
  have vE := noUnwrapsE
  have heq := Go.Lib.run_eql_iface_int (P := Try.prog) w (k := .i64) a b Try.underlying33 isComp Try.underlying51
  by_cases hab : (a == b) = true
  · rw [hab] at heq ⊢
    go_enter Try.func28, Try.ntmps28
    go_wp2
    refine wp_loop_rounds 1 ?_
    rw [rounds_succ]
    go_wp2
    go_ret
    exact ⟨rfl, rfl⟩
  · have hab' : (a == b) = false := by simpa using hab
    rw [hab'] at heq ⊢
    clear hab
    go_enter Try.func28, Try.ntmps28
    go_wp2
    refine wp_loop_rounds 1 ?_
    rw [rounds_succ]
    go_wp2
    go_ret
    exact ⟨rfl, rfl⟩

def codeOf (c : Int) : Int := if 1 ≤ c ∧ c ≤ 19 then c else -1
def dolmenalike_Code.f (a0 : Option Int) : Option Int := some (match a0 with | none => 0 | some c => codeOf c)
theorem code_num (c : Int) (w : World) :
    Calls Try.prog 15 #[.iface 51 (.int .i64 c)] w fun e w' => e = .returned (.int .i64 (codeOf c)) ∧ w' = w := by
  have hn := run_eql_held_nil (P := Try.prog) w 33 51 (.int .i64 c) (by rw [Try.underlying33]; rfl)
  go_enter Try.func15, Try.ntmps15
  go_wp2
  go_loop [3] (fun k => ∃ n : Int, 1 ≤ n ∧ n ≤ 20 ∧ k = .int .i64 n ∧ Hid (∀ j : Int, 1 ≤ j → j < n → j ≠ c)) (fun k => 20 - (intOf k).toNat)
  case atStart => exact ⟨1, by omega, by omega, rfl, Lib.hid (fun j h1 h2 => by omega)⟩
  case round =>
    obtain ⟨n, h1, h20, rfl, HJ⟩ := hrel
    by_cases hlt : n ≤ 19
    · by_cases hc : c = n
      · have H19 : codeOf n = n := if_pos ⟨h1, hlt⟩
        subst hc
        go_wp2_with (go_at_call 28; refine (is_num _ _ _).mono ?_; rintro e w' ⟨rfl, rfl⟩)
        go_ret
        exact ⟨congrArg (fun x => Ending.returned (.int .i64 x)) H19.symm, rfl⟩
      · have hf : (c == n) = false := by simpa using hc
        have HC := Lib.hid hc
        clear hc
        go_wp2_with (go_at_call 28; refine (is_num _ _ _).mono ?_; rintro e w' ⟨rfl, rfl⟩)
        go_round
        case rel => exact ⟨n + 1, by omega, by omega, by go_num, Lib.hid (fun j a b => by by_cases e : j = n; exact e ▸ fun h => HC.out h.symm; exact HJ.out j a (by omega))⟩
        case measure => simp [intOf]; omega
    · have H20 : codeOf c = -1 := if_neg (fun h => HJ.out c h.1 (by omega) rfl)
      go_wp2
      go_ret
      exact ⟨rfl, rfl⟩
theorem dolmenalike_Code.calls (a0 : Option Int) (r : Int) (w : World) (h : dolmenalike_Code.f a0 = some r) :
    Calls Try.prog 15 #[errW a0] w fun e w' => e = .returned (.int .i64 r) ∧ Drawn0 w w' := by
  cases a0 with
  | none =>
    obtain rfl := Option.some.inj h
    have hn := run_eql_nil_nil (P := Try.prog) w 33 (by rw [Try.underlying33]; rfl)
    rw [errW_none]
    go_enter Try.func15, Try.ntmps15
    go_wp2
    go_ret
    exact ⟨rfl, ⟨0, rfl⟩⟩
  | some c =>
    obtain rfl := Option.some.inj h
    rw [errW_some]
    exact (code_num c w).mono fun e w' h => ⟨h.1, ⟨0, h.2⟩⟩
end

/-! ### bits_Untext: function 21 -/
def bits_Untext.f (k : Nat) (l0 : List Int) : Option (ByteArray × Int × Option Int) := (bits_Unvarint.f k l0).bind fun bt128 => (if bt128.2 = 0 then (some ((⟨#[]⟩ : ByteArray), 0, some 14)) else (if bt128.1 > (IntKind.u64.wrap (wrap64 ((l0.length : Int) - bt128.2))) then (some ((⟨#[]⟩ : ByteArray), 0, some 14)) else (if 0 ≤ bt128.2 then (if bt128.2 ≤ (wrap64 (bt128.2 + (wrap64 (bt128.1)))) then (if (wrap64 (bt128.2 + (wrap64 (bt128.1)))) ≤ (l0.length : Int) then (some (strOfNums ((l0.take ((wrap64 (bt128.2 + (wrap64 (bt128.1)))) : Int).toNat).drop (bt128.2 : Int).toNat), wrap64 (bt128.2 + (wrap64 (bt128.1))), none)) else (none)) else (none)) else (none))))
theorem bits_Untext.mono : ∀ a0 k, LeO (bits_Untext.f k a0) (bits_Untext.f (k + 1) a0) := by
  intro a0 k
  unfold bits_Untext.f
  repeat' first
      | (with_reducible exact bits_Unvarint.mono _ _)
      | (with_reducible exact LeO.refl _)
      | (with_reducible exact LeO.none _)
      | (with_reducible refine LeO.ite ?_ ?_)
      | (with_reducible refine LeO.bind ?_ (fun _ => ?_))
      | exact bits_Unvarint.mono _ _
      | exact LeO.none _
      | refine LeO.ite ?_ ?_
      | refine LeO.bind ?_ (fun _ => ?_)
set_option maxHeartbeats 8000000 in
set_option maxRecDepth 100000 in
theorem bits_Untext.calls (k : Nat) (A0 : Option Addr) (c0 : Nat) (l0 : List Int) (r1 : ByteArray) (r2 : Int) (r3 : Option Int) (w : World) (hr0 : Kd.C (Kd.int .u8) w A0 l0.length l0) (hc0 : l0.length ≤ c0) (h : bits_Untext.f k l0 = some (r1, r2, r3)) :
    Calls Try.prog 21 #[.slice A0 l0.length c0] w fun e w' => e = .returned (.tuple #[.string r1, .int .i64 r2, errW r3]) ∧ Drawn0 w w' := by
  have hu33 := Try.underlying33
  have hu51 := Try.underlying51
  have HR0 := Aside0.mk hr0
  have HC0 := Aside0.mk hc0
  clear hr0 hc0
  have H : ((bits_Unvarint.f k l0).bind fun bt128 => (if bt128.2 = 0 then (some ((⟨#[]⟩ : ByteArray), 0, some 14)) else (if bt128.1 > (IntKind.u64.wrap (wrap64 ((l0.length : Int) - bt128.2))) then (some ((⟨#[]⟩ : ByteArray), 0, some 14)) else (if 0 ≤ bt128.2 then (if bt128.2 ≤ (wrap64 (bt128.2 + (wrap64 (bt128.1)))) then (if (wrap64 (bt128.2 + (wrap64 (bt128.1)))) ≤ (l0.length : Int) then (some (strOfNums ((l0.take ((wrap64 (bt128.2 + (wrap64 (bt128.1)))) : Int).toNat).drop (bt128.2 : Int).toNat), wrap64 (bt128.2 + (wrap64 (bt128.1))), none)) else (none)) else (none)) else (none))))) = some (r1, r2, r3) := h
  clear h
  replace H := Option.bind_eq_some_iff.mp H
  obtain ⟨⟨t128, t129⟩, A20, H⟩ := H
  replace H : (if t129 = 0 then (some ((⟨#[]⟩ : ByteArray), 0, some 14)) else (if t128 > (IntKind.u64.wrap (wrap64 ((l0.length : Int) - t129))) then (some ((⟨#[]⟩ : ByteArray), 0, some 14)) else (if 0 ≤ t129 then (if t129 ≤ (wrap64 (t129 + (wrap64 (t128)))) then (if (wrap64 (t129 + (wrap64 (t128)))) ≤ (l0.length : Int) then (some (strOfNums ((l0.take ((wrap64 (t129 + (wrap64 (t128)))) : Int).toNat).drop (t129 : Int).toNat), wrap64 (t129 + (wrap64 (t128))), none)) else (none)) else (none)) else (none)))) = some (r1, r2, r3) := H
  have A2 := Aside0.mk A20
  clear A20
  by_cases c3 : t129 = 0
  · rw [if_pos c3] at H
    have c3b0 : (t129 == 0) = true := beq_iff_eq.mpr c3
    have c3b1 : (t129 != 0) = false := bne_eq_false_iff_eq.mpr c3
    clear c3
    simp only [Option.some.injEq, Prod.mk.injEq] at H
    obtain ⟨rfl, rfl, rfl⟩ := H
    go_enter Try.func21, Try.ntmps21
    go_wp2_with (first | ((with_reducible refine gate_callee (f := 12) rfl ?_); refine goesL_ (some 10) rfl rfl Try.func12 (by kernel_rfl) rfl #[.slice A0 l0.length c0] rfl (by (try simp only [List.map_toArray, List.map_cons, List.map_nil]); first | done | rfl | (simp only [List.length_drop, List.length_take]; rfl)) ?_; (with_reducible refine (bits_Unvarint.calls k _ _ l0 t128 t129 _ ?side1 ?side2 A2.out).mono ?_); (case side1 => repeat (first | exact HR0.out | (with_reducible refine Kd.C_alloc ?_ _) | (with_reducible refine Kd.C_drewN ?_ _) | (with_reducible refine Kd.C_drew ?_))); (case side2 => exact HC0.out); rintro e w' ⟨rfl, ⟨nd, rfl⟩⟩; refine ⟨_, rfl, ?_⟩))
    go_ret3
    exact ⟨by first | rfl | (simp; done) | (simp [*]; done), by repeat (first | exact Drawn0.refl _ | apply Drawn0.step)⟩
  · rw [if_neg c3] at H
    have c3b0 : (t129 == 0) = false := beq_eq_false_iff_ne.mpr c3
    have c3b1 : (t129 != 0) = true := bne_iff_ne.mpr c3
    by_cases c4 : t128 > (IntKind.u64.wrap (wrap64 ((l0.length : Int) - t129)))
    · rw [if_pos c4] at H
      have c4b0 : decide ((IntKind.u64.wrap (wrap64 ((l0.length : Int) - t129))) < t128) = true := decide_eq_true c4
      clear c4
      simp only [Option.some.injEq, Prod.mk.injEq] at H
      obtain ⟨rfl, rfl, rfl⟩ := H
      go_enter Try.func21, Try.ntmps21
      go_wp2_with (first | ((with_reducible refine gate_callee (f := 12) rfl ?_); refine goesL_ (some 10) rfl rfl Try.func12 (by kernel_rfl) rfl #[.slice A0 l0.length c0] rfl (by (try simp only [List.map_toArray, List.map_cons, List.map_nil]); first | done | rfl | (simp only [List.length_drop, List.length_take]; rfl)) ?_; (with_reducible refine (bits_Unvarint.calls k _ _ l0 t128 t129 _ ?side1 ?side2 A2.out).mono ?_); (case side1 => repeat (first | exact HR0.out | (with_reducible refine Kd.C_alloc ?_ _) | (with_reducible refine Kd.C_drewN ?_ _) | (with_reducible refine Kd.C_drew ?_))); (case side2 => exact HC0.out); rintro e w' ⟨rfl, ⟨nd, rfl⟩⟩; refine ⟨_, rfl, ?_⟩))
      go_ret3
      exact ⟨by first | rfl | (simp; done) | (simp [*]; done), by repeat (first | exact Drawn0.refl _ | apply Drawn0.step)⟩
    · rw [if_neg c4] at H
      have c4b0 : decide ((IntKind.u64.wrap (wrap64 ((l0.length : Int) - t129))) < t128) = false := decide_eq_false c4
      clear c4
      by_cases c5 : 0 ≤ t129
      · rw [if_pos c5] at H
        have c5b0 := eq_true c5
        have c5b1 : decide (0 ≤ t129) = true := decide_eq_true c5
        clear c5
        by_cases c6 : t129 ≤ (wrap64 (t129 + (wrap64 (t128))))
        · rw [if_pos c6] at H
          have c6b0 := eq_true c6
          have c6b1 : decide (t129 ≤ (wrap64 (t129 + (wrap64 (t128))))) = true := decide_eq_true c6
          by_cases c7 : (wrap64 (t129 + (wrap64 (t128)))) ≤ (l0.length : Int)
          · rw [if_pos c7] at H
            have c7b0 := eq_true c7
            have c7b1 : decide ((wrap64 (t129 + (wrap64 (t128)))) ≤ (l0.length : Int)) = true := decide_eq_true c7
            simp only [Option.some.injEq, Prod.mk.injEq] at H
            obtain ⟨rfl, rfl, rfl⟩ := H
            go_enter Try.func21, Try.ntmps21
            go_wp2_with (first | ((with_reducible refine gate_callee (f := 12) rfl ?_); refine goesL_ (some 10) rfl rfl Try.func12 (by kernel_rfl) rfl #[.slice A0 l0.length c0] rfl (by (try simp only [List.map_toArray, List.map_cons, List.map_nil]); first | done | rfl | (simp only [List.length_drop, List.length_take]; rfl)) ?_; (with_reducible refine (bits_Unvarint.calls k _ _ l0 t128 t129 _ ?side1 ?side2 A2.out).mono ?_); (case side1 => repeat (first | exact HR0.out | (with_reducible refine Kd.C_alloc ?_ _) | (with_reducible refine Kd.C_drewN ?_ _) | (with_reducible refine Kd.C_drew ?_))); (case side2 => exact HC0.out); rintro e w' ⟨rfl, ⟨nd, rfl⟩⟩; refine ⟨_, rfl, ?_⟩; obtain ⟨i08, hi08, _, hsz8, _⟩ := info_parts info5; obtain ⟨A8, hcut8, hA8, hC8⟩ := print_mid_of (P := Try.prog) (Value.int .u8) 0 27 5 .i64 .i64 Try.underlying27 hi08 hsz8 A0 c0 l0 t129 (wrap64 (t129 + (wrap64 (t128)))) (of_decide_eq_true (by first | (with_reducible assumption) | assumption)) (by first | omega | exact of_decide_eq_true (by first | (with_reducible assumption) | assumption)) (of_decide_eq_true (by first | (with_reducible assumption) | assumption)) HC0.out; have HR130 := Aside0.mk (Kd.C_of_reads (h1 := fun _ => rfl) (hA8 _ (Kd.reads_of_C HR0.out))); have HC130 := Aside0.mk hC8; clear hA8 hC8 hi08 hsz8; have hcv9 := fun n_ => Kd.C_string (P := Try.prog) (A := A8) (c := (c0 - t129.toNat)) Try.underlying27 Try.underlying5 Try.underlying9 (Kd.C_drewN HR130.out n_); (try simp only [List.length_drop, List.length_take, Nat.min_eq_left (show (wrap64 (t129 + wrap64 t128)).toNat ≤ l0.length by omega)] at hcv9)))
            go_ret3
            exact ⟨by first | rfl | (simp; done) | (simp [*]; done), by repeat (first | exact Drawn0.refl _ | apply Drawn0.step)⟩
          · rw [if_neg c7] at H
            exact absurd H (by simp)
        · rw [if_neg c6] at H
          exact absurd H (by simp)
      · rw [if_neg c5] at H
        exact absurd H (by simp)

/-! ### bits_Text: function 24 -/
def bits_Text.f (k : Nat) (a0 : ByteArray) : Option (List Int) := (bits_Varint.f k (IntKind.u64.wrap ((a0.size : Int)))).bind fun t131 => (if t131.length + a0.size < 140737488355328 then (some (t131 ++ bytesOf a0)) else (none))
theorem bits_Text.mono : ∀ a0 k, LeO (bits_Text.f k a0) (bits_Text.f (k + 1) a0) := by
  intro a0 k
  unfold bits_Text.f
  repeat' first
      | (with_reducible exact bits_Varint.mono _ _)
      | (with_reducible exact LeO.refl _)
      | (with_reducible exact LeO.none _)
      | (with_reducible refine LeO.ite ?_ ?_)
      | (with_reducible refine LeO.bind ?_ (fun _ => ?_))
      | exact bits_Varint.mono _ _
      | exact LeO.none _
      | refine LeO.ite ?_ ?_
      | refine LeO.bind ?_ (fun _ => ?_)
set_option maxHeartbeats 8000000 in
set_option maxRecDepth 100000 in
theorem bits_Text.calls (k : Nat) (a0 : ByteArray) (r : List Int) (w : World) (h : bits_Text.f k a0 = some r) :
    Calls Try.prog 24 #[.string a0] w fun e w' => ∃ v0_ : Value, e = .returned (v0_) ∧ Kd.R (Kd.int .u8) 5 w' w.heap.size (fun _ => True) v0_ r ∧ Below w.heap.size w w' := by
  have HB := Aside0.mk (Below.refl w.heap.size w)
  have H : ((bits_Varint.f k (IntKind.u64.wrap ((a0.size : Int)))).bind fun t131 => (if t131.length + a0.size < 140737488355328 then (some (t131 ++ bytesOf a0)) else (none))) = some r := h
  clear h
  replace H := Option.bind_eq_some_iff.mp H
  obtain ⟨t131, A20, H⟩ := H
  replace H : (if t131.length + a0.size < 140737488355328 then (some (t131 ++ bytesOf a0)) else (none)) = some r := H
  have A2 := Aside0.mk A20
  clear A20
  by_cases c3 : t131.length + a0.size < 140737488355328
  · rw [if_pos c3] at H
    have LMc3 := Aside0.mk c3
    clear c3
    obtain ⟨y134, hy134⟩ : ∃ y_ : List Int, y_ = (t131 ++ bytesOf a0) := ⟨_, rfl⟩
    replace H : (some y134) = some r := by first | (rw [hy134]; with_reducible exact H) | (have H2_ := (Option.bind_some _ _).symm.trans H; rw [hy134]; with_reducible exact H2_) | (have H2_ := (Option.bind_some _ _).symm.trans H; with_reducible exact H2_) | with_reducible exact H | (rw [hy134]; exact H) | exact H
    have Ny134 := Aside0.mk hy134
    clear hy134
    obtain rfl := Option.some.inj H
    go_enter Try.func24, Try.ntmps24
    go_wp2_with (first | ((with_reducible refine gate_callee (f := 11) rfl ?_); refine goesL_ (some 6) rfl rfl Try.func11 (by kernel_rfl) rfl #[.int .u64 (IntKind.u64.wrap ((a0.size : Int)))] rfl (by (try simp only [List.map_toArray, List.map_cons, List.map_nil]); first | done | rfl | (simp only [List.length_drop, List.length_take]; rfl)) ?_; (with_reducible refine (bits_Varint.calls k (IntKind.u64.wrap ((a0.size : Int))) t131 _ A2.out).mono ?_); rintro e w4 ⟨v132, rfl, ho0, hb⟩; refine ⟨_, rfl, ?_⟩; have n0_ := Aside0.mk (Kd.R_lower ho0 (below_size (by repeat (first | (with_reducible first | exact HB.out | apply below_alloc | apply pw_below_drewN | apply below_drew1) | exact HB.out)))); have n1_ := Aside0.mk (below_step (by repeat (first | (with_reducible first | exact HB.out | apply below_alloc | apply pw_below_drewN | apply below_drew1) | exact HB.out)) hb); clear HB; have HO133 := n0_; have HB := n1_; clear n0_ n1_; (try clear hb); (try clear hb2); (try clear hk); (try clear hi); (try clear ho0)) | (at_builtin; refine print_append_str (w0 := w) w.heap.size rfl (.tmp 6) _ 27 9 5 rfl Try.underlying27 Try.underlying9 info5 v132 t131 a0 rfl rfl ?aO ?aB ?aS ?aL ?_; (case aB => exact (by repeat (first | (with_reducible first | exact HB.out | apply below_alloc | apply pw_below_drewN | apply below_drew1) | exact HB.out))); (case aO => exact (Kd.own_of_R (by (with_reducible repeat (first | apply Kd.R_alloc | apply Kd.R_drewN | apply Kd.R_drew)); exact HO133.out))); (case aS => exact (below_size (by repeat (first | (with_reducible first | exact HB.out | apply below_alloc | apply pw_below_drewN | apply below_drew1) | exact HB.out)))); (case aL => have := LMc3.out; omega); intro v135 w5 ho0 hb hg; have ho := Kd.R_of_own (h1 := fun _ => rfl) (ok := fun _ => True) ho0 (fun _ _ => trivial); clear ho0; have hat := True.intro; rw [← Ny134.out] at ho; change Kd.R (Kd.int .u8) 5 w5 w.heap.size (fun _ => True) v135 y134 at ho; have n0_ := Aside0.mk (hb); have n1_ := Aside0.mk (ho); clear HB; clear HO133; have HB := n0_; have HO136 := n1_; clear n0_ n1_; clear ho hb hg hat))
    go_ret
    exact ⟨_, by first | rfl | (simp [errW_none, errW_some] <;> rfl) | (simp [*, errW_none, errW_some] <;> rfl), by (with_reducible repeat (first | apply Kd.R_alloc | apply Kd.R_drewN | apply Kd.R_drew)); exact HO136.out, by repeat (first | (with_reducible first | exact HB.out | apply below_alloc | apply pw_below_drewN | apply below_drew1) | exact HB.out)⟩
  · rw [if_neg c3] at H
    exact absurd H (by simp)

/-! ### dolmenalike_Round: function 26 -/
def dolmenalike_Round.f (a0 : Int) (a1 : Int) : Option (Int) := if a1 = 0 then (none) else (if (Int.tmod a0 a1) < 0 then (some (wrap64 ((Int.tmod a0 a1) + a1))) else (some (Int.tmod a0 a1)))
set_option maxHeartbeats 8000000 in
set_option maxRecDepth 100000 in
theorem dolmenalike_Round.calls (a0 : Int) (a1 : Int) (r : Int) (w : World) (h : dolmenalike_Round.f a0 a1 = some r) :
    Calls Try.prog 26 #[.int .i64 a0, .int .i64 a1] w fun e w' => e = .returned (.int .i64 r) ∧ Drawn0 w w' := by
  have H : (if a1 = 0 then (none) else (if (Int.tmod a0 a1) < 0 then (some (wrap64 ((Int.tmod a0 a1) + a1))) else (some (Int.tmod a0 a1)))) = some r := h
  clear h
  by_cases c3 : a1 = 0
  · rw [if_pos c3] at H
    exact absurd H (by simp)
  · rw [if_neg c3] at H
    have c3b0 : (a1 == 0) = false := beq_eq_false_iff_ne.mpr c3
    have c3b1 : (a1 != 0) = true := bne_iff_ne.mpr c3
    by_cases c4 : (Int.tmod a0 a1) < 0
    · rw [if_pos c4] at H
      have c4b0 : decide ((Int.tmod a0 a1) < 0) = true := decide_eq_true c4
      clear c4
      obtain rfl := Option.some.inj H
      go_enter Try.func26, Try.ntmps26
      go_wp2
      go_ret
      exact ⟨by first | rfl | (simp; done) | (simp [*]; done), by repeat (first | exact Drawn0.refl _ | apply Drawn0.step)⟩
    · rw [if_neg c4] at H
      have c4b0 : decide ((Int.tmod a0 a1) < 0) = false := decide_eq_false c4
      clear c4
      obtain rfl := Option.some.inj H
      go_enter Try.func26, Try.ntmps26
      go_wp2
      go_ret
      exact ⟨by first | rfl | (simp; done) | (simp [*]; done), by repeat (first | exact Drawn0.refl _ | apply Drawn0.step)⟩

end Go.Proofs.Ytfonkhikdaegpaa.PBitsTexts
