/- Functions of the given program told as plain Lean functions, and that the code does what they tell: written by a program of this session over the print of the kit, with some contracts proved by hand. Conditions: those typed at each theorem. -/
import Derived.Test.YtfonkhikdaegpaaPBitsVarintsx0
namespace Go.Proofs.Ytfonkhikdaegpaa.PBitsVarints
open Go.RowKit Go.Proofs.YtfonkhikdaegpaaW.PrintWords Go.Proofs.YtfonkhikdaegpaaW.PrintLast Go.Proofs.YtfonkhikdaegpaaW.PrintMore
attribute [local go_sem] max2_int min2_int max_two min_two max_three min_three max_four min_four   -- for this text's walks alone
set_option linter.unusedVariables false
set_option linter.unusedSimpArgs false

/-! ### bits_Unvarint: function 12 -/
mutual
def bits_Unvarint.l0 : Nat → List Int → Int → Int → Option (Int × Int)
  | 0, _, _, _ => none
  | k + 1, x0, x2, x3 => if x3 < 10 then (bits_Unvarint.j1 k x0 x2 x3 (decide (x3 < (x0.length : Int)))) else (bits_Unvarint.j1 k x0 x2 x3 false)
def bits_Unvarint.j1 : Nat → List Int → Int → Int → Bool → Option (Int × Int)
  | 0, _, _, _, _ => none
  | k + 1, x0, x2, x3, x12 => if x12 = true then (if 0 ≤ x3 then (if x3 < (x0.length : Int) then (if 0 ≤ (wrap64 (7 * x3)) then (if (rd x0 x3) ≥ 128 then (bits_Unvarint.l0 k x0 (Go.bits .or .u64 x2 (shl .u64 (IntKind.u64.wrap (Go.bits .andNot .u8 (rd x0 x3) 128)) (wrap64 (7 * x3)))) (wrap64 (x3 + 1))) else (if (wrap64 (x3 + 1)) = 10 then (bits_Unvarint.j2 k (Go.bits .or .u64 x2 (shl .u64 (IntKind.u64.wrap (Go.bits .andNot .u8 (rd x0 x3) 128)) (wrap64 (7 * x3)))) (wrap64 (x3 + 1)) (rd x0 x3) (decide ((rd x0 x3) > 1))) else (bits_Unvarint.j2 k (Go.bits .or .u64 x2 (shl .u64 (IntKind.u64.wrap (Go.bits .andNot .u8 (rd x0 x3) 128)) (wrap64 (7 * x3)))) (wrap64 (x3 + 1)) (rd x0 x3) false))) else (none)) else (none)) else (none)) else (some (0, 0))
def bits_Unvarint.j2 : Nat → Int → Int → Int → Bool → Option (Int × Int)
  | 0, _, _, _, _ => none
  | k + 1, x2, x3, x4, x30 => if x30 = true then (some (0, 0)) else (if x3 > 1 then (if x4 = 0 then (some (0, 0)) else (some (x2, x3))) else (some (x2, x3)))
end
def bits_Unvarint.f (k : Nat) (l0 : List Int) : Option (Int × Int) := bits_Unvarint.l0 k l0 0 0
theorem bits_Unvarint.mono_l : ∀ k, (∀ y0 y1 y2, LeO (bits_Unvarint.l0 k y0 y1 y2) (bits_Unvarint.l0 (k + 1) y0 y1 y2)) ∧ (∀ y0 y1 y2 y3, LeO (bits_Unvarint.j1 k y0 y1 y2 y3) (bits_Unvarint.j1 (k + 1) y0 y1 y2 y3)) ∧ (∀ y0 y1 y2 y3, LeO (bits_Unvarint.j2 k y0 y1 y2 y3) (bits_Unvarint.j2 (k + 1) y0 y1 y2 y3))
  | 0 => ⟨fun _ _ _ r h => by simp [bits_Unvarint.l0] at h, fun _ _ _ _ r h => by simp [bits_Unvarint.j1] at h, fun _ _ _ _ r h => by simp [bits_Unvarint.j2] at h⟩
  | k + 1 => by
    obtain ⟨ih0, ih1, ih2⟩ := bits_Unvarint.mono_l k
    refine ⟨?_, ?_, ?_⟩
    · intro y0 y1 y2
      unfold bits_Unvarint.l0
      repeat' first
      | (with_reducible exact ih0 _ _ _)
      | (with_reducible exact ih1 _ _ _ _)
      | (with_reducible exact ih2 _ _ _ _)
      | (with_reducible exact LeO.refl _)
      | (with_reducible exact LeO.none _)
      | (with_reducible refine LeO.ite ?_ ?_)
      | (with_reducible refine LeO.bind ?_ (fun _ => ?_))
      | exact ih0 _ _ _
      | exact ih1 _ _ _ _
      | exact ih2 _ _ _ _
      | exact LeO.none _
      | refine LeO.ite ?_ ?_
      | refine LeO.bind ?_ (fun _ => ?_)
    · intro y0 y1 y2 y3
      unfold bits_Unvarint.j1
      repeat' first
      | (with_reducible exact ih0 _ _ _)
      | (with_reducible exact ih1 _ _ _ _)
      | (with_reducible exact ih2 _ _ _ _)
      | (with_reducible exact LeO.refl _)
      | (with_reducible exact LeO.none _)
      | (with_reducible refine LeO.ite ?_ ?_)
      | (with_reducible refine LeO.bind ?_ (fun _ => ?_))
      | exact ih0 _ _ _
      | exact ih1 _ _ _ _
      | exact ih2 _ _ _ _
      | exact LeO.none _
      | refine LeO.ite ?_ ?_
      | refine LeO.bind ?_ (fun _ => ?_)
    · intro y0 y1 y2 y3
      unfold bits_Unvarint.j2
      repeat' first
      | (with_reducible exact ih0 _ _ _)
      | (with_reducible exact ih1 _ _ _ _)
      | (with_reducible exact ih2 _ _ _ _)
      | (with_reducible exact LeO.refl _)
      | (with_reducible exact LeO.none _)
      | (with_reducible refine LeO.ite ?_ ?_)
      | (with_reducible refine LeO.bind ?_ (fun _ => ?_))
      | exact ih0 _ _ _
      | exact ih1 _ _ _ _
      | exact ih2 _ _ _ _
      | exact LeO.none _
      | refine LeO.ite ?_ ?_
      | refine LeO.bind ?_ (fun _ => ?_)
theorem bits_Unvarint.mono : ∀ a0 k, LeO (bits_Unvarint.f k a0) (bits_Unvarint.f (k + 1) a0) := by
  intro a0 k
  obtain ⟨ih0, ih1, ih2⟩ := bits_Unvarint.mono_l k
  unfold bits_Unvarint.f
  repeat' first
      | (with_reducible exact ih0 _ _ _)
      | (with_reducible exact ih1 _ _ _ _)
      | (with_reducible exact ih2 _ _ _ _)
      | (with_reducible exact LeO.refl _)
      | (with_reducible exact LeO.none _)
      | (with_reducible refine LeO.ite ?_ ?_)
      | (with_reducible refine LeO.bind ?_ (fun _ => ?_))
      | exact ih0 _ _ _
      | exact ih1 _ _ _ _
      | exact ih2 _ _ _ _
      | exact LeO.none _
      | refine LeO.ite ?_ ?_
      | refine LeO.bind ?_ (fun _ => ?_)
set_option maxHeartbeats 8000000 in
set_option maxRecDepth 100000 in
theorem bits_Unvarint.calls (k : Nat) (A0 : Option Addr) (c0 : Nat) (l0 : List Int) (r1 : Int) (r2 : Int) (w : World) (hr0 : Kd.C (Kd.int .u8) w A0 l0.length l0) (hc0 : l0.length ≤ c0) (h : bits_Unvarint.f k l0 = some (r1, r2)) :
    Calls Try.prog 12 #[.slice A0 l0.length c0] w fun e w' => e = .returned (.tuple #[.int .u64 r1, .int .i64 r2]) ∧ Drawn0 w w' := by
  have HR0 := Aside0.mk hr0
  have HC0 := Aside0.mk hc0
  clear hr0 hc0
  have H : (bits_Unvarint.l0 k l0 0 0) = some (r1, r2) := h
  clear h
  have H' := Aside0.mk H
  clear H
  go_enter Try.func12, Try.ntmps12
  go_wp2
  go_loopg [2, 3] k (fun kq v2 v3 w' => ∃ (x2_1 : Int) (x3_1 : Int), v2 = .int .u64 x2_1 ∧ v3 = .int .i64 x3_1 ∧ Aside0 (bits_Unvarint.l0 kq l0 x2_1 x3_1 = some (r1, r2)) ∧ Aside0 (kq ≤ k) ∧ Drawn0 w w')
  case atStart => exact ⟨(0), (0), (by first | rfl | (simp; done) | (simp [*]; done)), (by first | rfl | (simp; done) | (simp [*]; done)), H', ⟨Nat.le_refl _⟩, by repeat (first | exact Drawn0.refl _ | apply Drawn0.step)⟩
  case round =>
    clear H'
    try clear c1
    obtain ⟨x2_1, x3_1, rfl, rfl, HA, HK1, ⟨m1, rfl⟩⟩ := hrel
    cases gk with
    | zero => exact absurd HA.out (by simp [bits_Unvarint.l0])
    | succ k1 =>
      have H := HA.out
      clear HA
      simp only [bits_Unvarint.l0] at H
      have HC2 := Aside0.mk H
      clear H
      go_upto_region 1 with (fail)
      go_cut [12] (fun v12 wc => ∃ (kq : Nat) (x12_1 : Bool), v12 = .bool x12_1 ∧ Aside0 (bits_Unvarint.j1 kq l0 x2_1 x3_1 x12_1 = some (r1, r2)) ∧ Aside0 (kq ≤ k1) ∧ Drawn0 w wc)
      case first =>
        have H := HC2.out
        clear HC2
        by_cases c3 : x3_1 < 10
        · rw [if_pos c3] at H
          have c3b0 : decide (x3_1 < 10) = true := decide_eq_true c3
          clear c3
          (first | rw [c3b0] | (simp only [i64_w, i32_w]; rw [c3b0]) | skip)
          have H' := Aside0.mk H
          clear H
          go_wp2
          go_meet
          case rel => exact ⟨_, (decide (x3_1 < (l0.length : Int))), (by first | rfl | (simp; done) | (simp [*]; done)), H', ⟨by have := HK1.out; first | omega | exact Nat.le_refl _⟩, by repeat (first | exact Drawn0.refl _ | apply Drawn0.step)⟩
        · rw [if_neg c3] at H
          have c3b0 : decide (x3_1 < 10) = false := decide_eq_false c3
          clear c3
          (first | rw [c3b0] | (simp only [i64_w, i32_w]; rw [c3b0]) | skip)
          have H' := Aside0.mk H
          clear H
          go_wp2
          go_meet
          case rel => exact ⟨_, (false), (by first | rfl | (simp; done) | (simp [*]; done)), H', ⟨by have := HK1.out; first | omega | exact Nat.le_refl _⟩, by repeat (first | exact Drawn0.refl _ | apply Drawn0.step)⟩
      case rest =>
        clear HC2
        try clear c1
        try clear p2
        try clear c3
        try clear c3b0
        obtain ⟨kq, x12_1, rfl, HA, HJ1, ⟨mc1, rfl⟩⟩ := hcut
        cases kq with
        | zero => exact absurd HA.out (by simp [bits_Unvarint.j1])
        | succ kj1 =>
          have H := HA.out
          clear HA
          simp only [bits_Unvarint.j1] at H
          by_cases c4 : x12_1 = true
          · subst c4
            have H1 : (if 0 ≤ x3_1 then (if x3_1 < (l0.length : Int) then (if 0 ≤ (wrap64 (7 * x3_1)) then (if (rd l0 x3_1) ≥ 128 then (bits_Unvarint.l0 kj1 l0 (Go.bits .or .u64 x2_1 (shl .u64 (IntKind.u64.wrap (Go.bits .andNot .u8 (rd l0 x3_1) 128)) (wrap64 (7 * x3_1)))) (wrap64 (x3_1 + 1))) else (if (wrap64 (x3_1 + 1)) = 10 then (bits_Unvarint.j2 kj1 (Go.bits .or .u64 x2_1 (shl .u64 (IntKind.u64.wrap (Go.bits .andNot .u8 (rd l0 x3_1) 128)) (wrap64 (7 * x3_1)))) (wrap64 (x3_1 + 1)) (rd l0 x3_1) (decide ((rd l0 x3_1) > 1))) else (bits_Unvarint.j2 kj1 (Go.bits .or .u64 x2_1 (shl .u64 (IntKind.u64.wrap (Go.bits .andNot .u8 (rd l0 x3_1) 128)) (wrap64 (7 * x3_1)))) (wrap64 (x3_1 + 1)) (rd l0 x3_1) false))) else (none)) else (none)) else (none)) = some (r1, r2) := by rw [if_pos rfl] at H; exact H
            clear H
            have H := H1
            clear H1
            by_cases c5 : 0 ≤ x3_1
            · rw [if_pos c5] at H
              have c5b0 : decide (0 ≤ x3_1) = true := decide_eq_true c5
              clear c5
              by_cases c6 : x3_1 < (l0.length : Int)
              · rw [if_pos c6] at H
                have c6b0 : decide (x3_1 < (l0.length : Int)) = true := decide_eq_true c6
                clear c6
                obtain ⟨ji7, hji7⟩ : ∃ j_ : Int, (wrap64 (7 * x3_1)) = j_ := ⟨_, rfl⟩
                replace H : (if 0 ≤ (ji7) then (if (rd l0 x3_1) ≥ 128 then (bits_Unvarint.l0 kj1 l0 (Go.bits .or .u64 x2_1 (shl .u64 (IntKind.u64.wrap (Go.bits .andNot .u8 (rd l0 x3_1) 128)) (ji7))) (wrap64 (x3_1 + 1))) else (if (wrap64 (x3_1 + 1)) = 10 then (bits_Unvarint.j2 kj1 (Go.bits .or .u64 x2_1 (shl .u64 (IntKind.u64.wrap (Go.bits .andNot .u8 (rd l0 x3_1) 128)) (ji7))) (wrap64 (x3_1 + 1)) (rd l0 x3_1) (decide ((rd l0 x3_1) > 1))) else (bits_Unvarint.j2 kj1 (Go.bits .or .u64 x2_1 (shl .u64 (IntKind.u64.wrap (Go.bits .andNot .u8 (rd l0 x3_1) 128)) (ji7))) (wrap64 (x3_1 + 1)) (rd l0 x3_1) false))) else (none)) = some (r1, r2) := by first | (rw [hji7] at H; exact H) | (simp only [hji7] at H ⊢; exact H)
                have hji7w : (IntKind.i64.wrap (7 * x3_1)) = ji7 := (i64_w _).trans hji7
                by_cases c8 : 0 ≤ (ji7)
                · rw [if_pos c8] at H
                  have c8b0 := eq_true c8
                  have c8b1 : decide (0 ≤ (ji7)) = true := decide_eq_true c8
                  clear c8
                  obtain ⟨ji9, hji9⟩ : ∃ j_ : Int, (shl .u64 (IntKind.u64.wrap (Go.bits .andNot .u8 (rd l0 x3_1) 128)) (ji7)) = j_ := ⟨_, rfl⟩
                  replace H : (if (rd l0 x3_1) ≥ 128 then (bits_Unvarint.l0 kj1 l0 (Go.bits .or .u64 x2_1 (ji9)) (wrap64 (x3_1 + 1))) else (if (wrap64 (x3_1 + 1)) = 10 then (bits_Unvarint.j2 kj1 (Go.bits .or .u64 x2_1 (ji9)) (wrap64 (x3_1 + 1)) (rd l0 x3_1) (decide ((rd l0 x3_1) > 1))) else (bits_Unvarint.j2 kj1 (Go.bits .or .u64 x2_1 (ji9)) (wrap64 (x3_1 + 1)) (rd l0 x3_1) false))) = some (r1, r2) := by first | (rw [hji9] at H; exact H) | (simp only [hji9] at H ⊢; exact H)
                  have hji9_ : (IntKind.u64.wrap ((IntKind.u64.wrap (Go.bits .andNot .u8 (rd l0 x3_1) 128)) * 2 ^ min (ji7).toNat 64)) = ji9 := hji9
                  have hji9z : (ji7) ≤ 64 → (IntKind.u64.wrap ((IntKind.u64.wrap (Go.bits .andNot .u8 (rd l0 x3_1) 128)) * 2 ^ (ji7).toNat)) = ji9 := shl_small hji9
                  by_cases c10 : (rd l0 x3_1) ≥ 128
                  · rw [if_pos c10] at H
                    have c10b0 : decide (128 ≤ (rd l0 x3_1)) = true := decide_eq_true c10
                    clear c10
                    have H' := Aside0.mk H
                    clear H
                    have p127 : 0 ≤ (x3_1 : Int) := of_decide_eq_true (by first | (with_reducible assumption) | assumption)
                    have q127 : x3_1 < (l0.length : Int) := of_decide_eq_true (by first | (with_reducible assumption) | assumption)
                    obtain ⟨ad127, e127, hx127_0⟩ := Kd.at_int HR0.out x3_1 p127 q127
                    cases e127
                    replace p127 := eq_true p127
                    replace q127 := eq_true q127
                    go_wp2
                    go_roundg kj1
                    case measure => have := HK1.out; have := HJ1.out; omega
                    case rel => exact ⟨(Go.bits .or .u64 x2_1 (ji9)), (wrap64 (x3_1 + 1)), (by first | rfl | (simp; done) | (simp only [← hji9] <;> (first | rfl | simp)) | (simp [*]; done)), (by first | rfl | (simp; done) | (simp [*]; done)), H', ⟨by have := HK1.out; have := HJ1.out; omega⟩, by repeat (first | exact Drawn0.refl _ | apply Drawn0.step)⟩
                  · rw [if_neg c10] at H
                    have c10b0 : decide (128 ≤ (rd l0 x3_1)) = false := decide_eq_false c10
                    clear c10
                    have HC11 := Aside0.mk H
                    clear H
                    have p127 : 0 ≤ (x3_1 : Int) := of_decide_eq_true (by first | (with_reducible assumption) | assumption)
                    have q127 : x3_1 < (l0.length : Int) := of_decide_eq_true (by first | (with_reducible assumption) | assumption)
                    obtain ⟨ad127, e127, hx127_0⟩ := Kd.at_int HR0.out x3_1 p127 q127
                    cases e127
                    replace p127 := eq_true p127
                    replace q127 := eq_true q127
                    go_upto_region 6 with (fail)
                    go_cut [30] (fun v30 wc => ∃ (kq : Nat) (x30_10 : Bool), v30 = .bool x30_10 ∧ Aside0 (bits_Unvarint.j2 kq (Go.bits .or .u64 x2_1 (ji9)) (wrap64 (x3_1 + 1)) (rd l0 x3_1) x30_10 = some (r1, r2)) ∧ Aside0 (kq ≤ kj1) ∧ Drawn0 w wc)
                    case first =>
                      have H := HC11.out
                      clear HC11
                      by_cases c12 : (wrap64 (x3_1 + 1)) = 10
                      · rw [if_pos c12] at H
                        have c12b0 : ((wrap64 (x3_1 + 1)) == 10) = true := beq_iff_eq.mpr c12
                        have c12b1 : ((wrap64 (x3_1 + 1)) != 10) = false := bne_eq_false_iff_eq.mpr c12
                        clear c12
                        (first | rw [c12b0] | (simp only [i64_w, i32_w]; rw [c12b0]) | skip)
                        have H' := Aside0.mk H
                        clear H
                        go_wp2
                        go_meet
                        case rel => exact ⟨_, (decide ((rd l0 x3_1) > 1)), (by first | rfl | (simp; done) | (simp [*]; done)), H', ⟨by have := HK1.out; have := HJ1.out; first | omega | exact Nat.le_refl _⟩, by repeat (first | exact Drawn0.refl _ | apply Drawn0.step)⟩
                      · rw [if_neg c12] at H
                        have c12b0 : ((wrap64 (x3_1 + 1)) == 10) = false := beq_eq_false_iff_ne.mpr c12
                        have c12b1 : ((wrap64 (x3_1 + 1)) != 10) = true := bne_iff_ne.mpr c12
                        (first | rw [c12b0] | (simp only [i64_w, i32_w]; rw [c12b0]) | skip)
                        have H' := Aside0.mk H
                        clear H
                        go_wp2
                        go_meet
                        case rel => exact ⟨_, (false), (by first | rfl | (simp; done) | (simp [*]; done)), H', ⟨by have := HK1.out; have := HJ1.out; first | omega | exact Nat.le_refl _⟩, by repeat (first | exact Drawn0.refl _ | apply Drawn0.step)⟩
                    case rest =>
                      clear HC11
                      try clear c1
                      try clear p1
                      try clear q1
                      try clear hx1
                      try clear p2
                      try clear c3
                      try clear c3b0
                      try clear c4
                      try clear c5
                      try clear c5b0
                      try clear c6
                      try clear c6b0
                      try clear p6
                      try clear c8
                      try clear c8b0
                      try clear c8b1
                      try clear c10
                      try clear c10b0
                      try clear c12
                      try clear c12b0
                      try clear c12b1
                      try clear p12
                      try clear q12
                      try clear hx12
                      try clear hx127_0
                      try clear p127
                      try clear p2
                      try clear q127
                      obtain ⟨kq, x30_10, rfl, HA, HJ10, ⟨mc10, rfl⟩⟩ := hcut
                      cases kq with
                      | zero => exact absurd HA.out (by simp [bits_Unvarint.j2])
                      | succ kj10 =>
                        have H := HA.out
                        clear HA
                        simp only [bits_Unvarint.j2] at H
                        by_cases c13 : x30_10 = true
                        · subst c13
                          have H1 : (some (0, 0)) = some (r1, r2) := by rw [if_pos rfl] at H; exact H
                          clear H
                          have H := H1
                          clear H1
                          simp only [Option.some.injEq, Prod.mk.injEq] at H
                          obtain ⟨rfl, rfl⟩ := H
                          go_wp2
                          go_ret2
                          exact ⟨by first | rfl | (simp; done) | (simp only [← hji7, ← hji9] <;> (first | rfl | simp)) | (simp [*]; done), by repeat (first | exact Drawn0.refl _ | apply Drawn0.step)⟩
                        · replace c13 := Bool.eq_false_iff.mpr c13
                          subst c13
                          have H1 : (if (wrap64 (x3_1 + 1)) > 1 then (if (rd l0 x3_1) = 0 then (some (0, 0)) else (some ((Go.bits .or .u64 x2_1 (ji9)), (wrap64 (x3_1 + 1))))) else (some ((Go.bits .or .u64 x2_1 (ji9)), (wrap64 (x3_1 + 1))))) = some (r1, r2) := by rw [if_neg (show ¬ (false = true) by decide)] at H; exact H
                          clear H
                          have H := H1
                          clear H1
                          by_cases c14 : (wrap64 (x3_1 + 1)) > 1
                          · rw [if_pos c14] at H
                            have c14b0 : decide (1 < (wrap64 (x3_1 + 1))) = true := decide_eq_true c14
                            clear c14
                            by_cases c15 : (rd l0 x3_1) = 0
                            · rw [if_pos c15] at H
                              have c15b0 : ((rd l0 x3_1) == 0) = true := beq_iff_eq.mpr c15
                              have c15b1 : ((rd l0 x3_1) != 0) = false := bne_eq_false_iff_eq.mpr c15
                              clear c15
                              simp only [Option.some.injEq, Prod.mk.injEq] at H
                              obtain ⟨rfl, rfl⟩ := H
                              go_wp2
                              go_ret2
                              exact ⟨by first | rfl | (simp; done) | (simp only [← hji7, ← hji9] <;> (first | rfl | simp)) | (simp [*]; done), by repeat (first | exact Drawn0.refl _ | apply Drawn0.step)⟩
                            · rw [if_neg c15] at H
                              have c15b0 : ((rd l0 x3_1) == 0) = false := beq_eq_false_iff_ne.mpr c15
                              have c15b1 : ((rd l0 x3_1) != 0) = true := bne_iff_ne.mpr c15
                              simp only [Option.some.injEq, Prod.mk.injEq] at H
                              obtain ⟨rfl, rfl⟩ := H
                              go_wp2
                              go_ret2
                              exact ⟨by first | rfl | (simp; done) | (simp only [← hji7, ← hji9] <;> (first | rfl | simp)) | (simp [*]; done), by repeat (first | exact Drawn0.refl _ | apply Drawn0.step)⟩
                          · rw [if_neg c14] at H
                            have c14b0 : decide (1 < (wrap64 (x3_1 + 1))) = false := decide_eq_false c14
                            clear c14
                            simp only [Option.some.injEq, Prod.mk.injEq] at H
                            obtain ⟨rfl, rfl⟩ := H
                            go_wp2
                            go_ret2
                            exact ⟨by first | rfl | (simp; done) | (simp only [← hji7, ← hji9] <;> (first | rfl | simp)) | (simp [*]; done), by repeat (first | exact Drawn0.refl _ | apply Drawn0.step)⟩
                · rw [if_neg c8] at H
                  exact absurd H (by simp)
              · rw [if_neg c6] at H
                exact absurd H (by simp)
            · rw [if_neg c5] at H
              exact absurd H (by simp)
          · replace c4 := Bool.eq_false_iff.mpr c4
            subst c4
            have H1 : (some (0, 0)) = some (r1, r2) := by rw [if_neg (show ¬ (false = true) by decide)] at H; exact H
            clear H
            have H := H1
            clear H1
            simp only [Option.some.injEq, Prod.mk.injEq] at H
            obtain ⟨rfl, rfl⟩ := H
            go_wp2
            go_ret2
            exact ⟨by first | rfl | (simp; done) | (simp [*]; done), by repeat (first | exact Drawn0.refl _ | apply Drawn0.step)⟩

/-! ### dolmenalike_Code: function 15 -/

section
open Go.Extern.Stop Go.Stop Go.Extern
theorem isTypeOf (v : Value) (w : World) : (Extern.ReflectliteType.typeOf #[.iface 51 v]).run Try.prog w = .ok (.iface 58 (.agg #[.pointer (some ⟨0, 51, none⟩)])) w := by kernel_rfl
def cmpM : Array Value → Sem Value := Extern.ReflectliteType.method fun t => do Go.Extern.Rtype.noPackHeld "Comparable" t; pure (.bool (← typeInfo t).comparable)
theorem isComparable (w : World) : (cmpM #[.agg #[.pointer (some ⟨0, 51, none⟩)]]).run Try.prog w = .ok (.bool true) w := by kernel_rfl
theorem isMethodComparable (v : Value) (w : World) : (Go.method 202 58 v "Comparable").run Try.prog w = .ok (50, v) w := by kernel_rfl
theorem isComp : (Try.prog.info? 51).map (·.comparable) = some true := by kernel_rfl
theorem noIsE (v : Value) (xT : TypeId) (w : World) : (Instr.typeAssert (.iface 51 v) xT 60 true).run Try.prog w = .ok (.tuple #[.nilIface, .bool false]) w := run_typeAssert_lacksB Try.underlying60 (by kernel_rfl) (by kernel_rfl) v xT w
theorem noUnwrapE (v : Value) (xT : TypeId) (w : World) : (Instr.typeAssert (.iface 51 v) xT 63 true).run Try.prog w = .ok (.tuple #[.nilIface, .bool false]) w := run_typeAssert_lacksB Try.underlying63 (by kernel_rfl) (by kernel_rfl) v xT w
theorem noUnwrapsE (v : Value) (xT : TypeId) (w : World) : (Instr.typeAssert (.iface 51 v) xT 65 true).run Try.prog w = .ok (.tuple #[.nilIface, .bool false]) w := run_typeAssert_lacksB Try.underlying65 (by kernel_rfl) (by kernel_rfl) v xT w

/-- errors.Is of two numbers of the type api.Errno: whether they are the same. -/
theorem is_num (a b : Int) (w : World) :
    Calls Try.prog 28 #[.iface 51 (.int .i64 a), .iface 51 (.int .i64 b)] w fun e w' => e = .returned (.bool (a == b)) ∧ w' = w := by
  have h8 := @run_callFunc_extern Try.prog 29 _ Extern.ReflectliteType.typeOf Try.func29 (by kernel_rfl) (by kernel_rfl) (by kernel_rfl) (by kernel_rfl)
  have h32 := @run_callFunc_extern Try.prog 50 _ cmpM Try.func50 (by kernel_rfl) (by kernel_rfl) (by kernel_rfl) (by kernel_rfl)
  have tT := isTypeOf
  have cT := isComparable
  have mR := isMethodComparable
  have nE := noIsE
  have uE := noUnwrapE
  have vE := noUnwrapsE
  have heq := Go.Lib.run_eql_iface_int (P := Try.prog) w (k := .i64) a b Try.underlying33 isComp Try.underlying51
  by_cases hab : (a == b) = true
  · rw [hab] at heq ⊢
    go_enter Try.func28, Try.ntmps28
    go_wp2
    refine wp_loop_rounds 1 ?_
    rw [rounds_succ]
    go_wp2
    go_ret
    exact ⟨rfl, rfl⟩
  · have hab' : (a == b) = false := by simpa using hab
    rw [hab'] at heq ⊢
    clear hab
    go_enter Try.func28, Try.ntmps28
    go_wp2
    refine wp_loop_rounds 1 ?_
    rw [rounds_succ]
    go_wp2
    go_ret
    exact ⟨rfl, rfl⟩

def codeOf (c : Int) : Int := if 1 ≤ c ∧ c ≤ 19 then c else -1
def dolmenalike_Code.f (a0 : Option Int) : Option Int := some (match a0 with | none => 0 | some c => codeOf c)
theorem code_num (c : Int) (w : World) :
    Calls Try.prog 15 #[.iface 51 (.int .i64 c)] w fun e w' => e = .returned (.int .i64 (codeOf c)) ∧ w' = w := by
  have hn := run_eql_held_nil (P := Try.prog) w 33 51 (.int .i64 c) (by rw [Try.underlying33]; rfl)
  go_enter Try.func15, Try.ntmps15
  go_wp2
  go_loop [3] (fun k => ∃ n : Int, 1 ≤ n ∧ n ≤ 20 ∧ k = .int .i64 n ∧ Hid (∀ j : Int, 1 ≤ j → j < n → j ≠ c)) (fun k => 20 - (intOf k).toNat)
  case atStart => exact ⟨1, by omega, by omega, rfl, Lib.hid (fun j h1 h2 => by omega)⟩
  case round =>
    obtain ⟨n, h1, h20, rfl, HJ⟩ := hrel
    by_cases hlt : n ≤ 19
    · by_cases hc : c = n
      · have H19 : codeOf n = n := if_pos ⟨h1, hlt⟩
        subst hc
        go_wp2_with (go_at_call 28; refine (is_num _ _ _).mono ?_; rintro e w' ⟨rfl, rfl⟩)
        go_ret
        exact ⟨congrArg (fun x => Ending.returned (.int .i64 x)) H19.symm, rfl⟩
      · have hf : (c == n) = false := by simpa using hc
        have HC := Lib.hid hc
        clear hc
        go_wp2_with (go_at_call 28; refine (is_num _ _ _).mono ?_; rintro e w' ⟨rfl, rfl⟩)
        go_round
        case rel => exact ⟨n + 1, by omega, by omega, by go_num, Lib.hid (fun j a b => by by_cases e : j = n; exact e ▸ fun h => HC.out h.symm; exact HJ.out j a (by omega))⟩
        case measure => simp [intOf]; omega
    · have H20 : codeOf c = -1 := if_neg (fun h => HJ.out c h.1 (by omega) rfl)
      go_wp2
      go_ret
      exact ⟨rfl, rfl⟩
theorem dolmenalike_Code.calls (a0 : Option Int) (r : Int) (w : World) (h : dolmenalike_Code.f a0 = some r) :
    Calls Try.prog 15 #[errW a0] w fun e w' => e = .returned (.int .i64 r) ∧ Drawn0 w w' := by
  cases a0 with
  | none =>
    obtain rfl := Option.some.inj h
    have hn := run_eql_nil_nil (P := Try.prog) w 33 (by rw [Try.underlying33]; rfl)
    rw [errW_none]
    go_enter Try.func15, Try.ntmps15
    go_wp2
    go_ret
    exact ⟨rfl, ⟨0, rfl⟩⟩
  | some c =>
    obtain rfl := Option.some.inj h
    rw [errW_some]
    exact (code_num c w).mono fun e w' h => ⟨h.1, ⟨0, h.2⟩⟩
end

/-! ### dolmenref1_Unvarint: function 20 -/
mutual
def dolmenref1_Unvarint.l0 : Nat → List Int → Int → Int → Option (Int × Int)
  | 0, _, _, _ => none
  | k + 1, x0, x4, x5 => if x5 < (x0.length : Int) then (dolmenref1_Unvarint.j1 k x0 x4 x5 (decide (x5 < 10))) else (dolmenref1_Unvarint.j1 k x0 x4 x5 false)
def dolmenref1_Unvarint.j1 : Nat → List Int → Int → Int → Bool → Option (Int × Int)
  | 0, _, _, _, _ => none
  | k + 1, x0, x4, x5, x14 => if x14 = true then (if 0 ≤ x5 then (if x5 < (x0.length : Int) then (if x5 = 9 then (dolmenref1_Unvarint.j2 k x0 x4 x5 (rd x0 x5) (decide ((rd x0 x5) > 1))) else (dolmenref1_Unvarint.j2 k x0 x4 x5 (rd x0 x5) false)) else (none)) else (none)) else (some (0, 0))
def dolmenref1_Unvarint.j2 : Nat → List Int → Int → Int → Int → Bool → Option (Int × Int)
  | 0, _, _, _, _, _ => none
  | k + 1, x0, x4, x5, x6, x26 => if x26 = true then (some (0, 0)) else (if 0 ≤ (wrap64 (7 * x5)) then (if x6 < 128 then (if x6 = 0 then (if x5 > 0 then (some (0, 0)) else (some (Go.bits .or .u64 x4 (shl .u64 (IntKind.u64.wrap (Go.bits .and .u8 x6 127)) (wrap64 (7 * x5))), wrap64 (x5 + 1)))) else (some (Go.bits .or .u64 x4 (shl .u64 (IntKind.u64.wrap (Go.bits .and .u8 x6 127)) (wrap64 (7 * x5))), wrap64 (x5 + 1)))) else (dolmenref1_Unvarint.l0 k x0 (Go.bits .or .u64 x4 (shl .u64 (IntKind.u64.wrap (Go.bits .and .u8 x6 127)) (wrap64 (7 * x5)))) (wrap64 (x5 + 1)))) else (none))
end
def dolmenref1_Unvarint.f (k : Nat) (l0 : List Int) : Option (Int × Int) := dolmenref1_Unvarint.l0 k l0 0 0
theorem dolmenref1_Unvarint.mono_l : ∀ k, (∀ y0 y1 y2, LeO (dolmenref1_Unvarint.l0 k y0 y1 y2) (dolmenref1_Unvarint.l0 (k + 1) y0 y1 y2)) ∧ (∀ y0 y1 y2 y3, LeO (dolmenref1_Unvarint.j1 k y0 y1 y2 y3) (dolmenref1_Unvarint.j1 (k + 1) y0 y1 y2 y3)) ∧ (∀ y0 y1 y2 y3 y4, LeO (dolmenref1_Unvarint.j2 k y0 y1 y2 y3 y4) (dolmenref1_Unvarint.j2 (k + 1) y0 y1 y2 y3 y4))
  | 0 => ⟨fun _ _ _ r h => by simp [dolmenref1_Unvarint.l0] at h, fun _ _ _ _ r h => by simp [dolmenref1_Unvarint.j1] at h, fun _ _ _ _ _ r h => by simp [dolmenref1_Unvarint.j2] at h⟩
  | k + 1 => by
    obtain ⟨ih0, ih1, ih2⟩ := dolmenref1_Unvarint.mono_l k
    refine ⟨?_, ?_, ?_⟩
    · intro y0 y1 y2
      unfold dolmenref1_Unvarint.l0
      repeat' first
      | (with_reducible exact ih0 _ _ _)
      | (with_reducible exact ih1 _ _ _ _)
      | (with_reducible exact ih2 _ _ _ _ _)
      | (with_reducible exact LeO.refl _)
      | (with_reducible exact LeO.none _)
      | (with_reducible refine LeO.ite ?_ ?_)
      | (with_reducible refine LeO.bind ?_ (fun _ => ?_))
      | exact ih0 _ _ _
      | exact ih1 _ _ _ _
      | exact ih2 _ _ _ _ _
      | exact LeO.none _
      | refine LeO.ite ?_ ?_
      | refine LeO.bind ?_ (fun _ => ?_)
    · intro y0 y1 y2 y3
      unfold dolmenref1_Unvarint.j1
      repeat' first
      | (with_reducible exact ih0 _ _ _)
      | (with_reducible exact ih1 _ _ _ _)
      | (with_reducible exact ih2 _ _ _ _ _)
      | (with_reducible exact LeO.refl _)
      | (with_reducible exact LeO.none _)
      | (with_reducible refine LeO.ite ?_ ?_)
      | (with_reducible refine LeO.bind ?_ (fun _ => ?_))
      | exact ih0 _ _ _
      | exact ih1 _ _ _ _
      | exact ih2 _ _ _ _ _
      | exact LeO.none _
      | refine LeO.ite ?_ ?_
      | refine LeO.bind ?_ (fun _ => ?_)
    · intro y0 y1 y2 y3 y4
      unfold dolmenref1_Unvarint.j2
      repeat' first
      | (with_reducible exact ih0 _ _ _)
      | (with_reducible exact ih1 _ _ _ _)
      | (with_reducible exact ih2 _ _ _ _ _)
      | (with_reducible exact LeO.refl _)
      | (with_reducible exact LeO.none _)
      | (with_reducible refine LeO.ite ?_ ?_)
      | (with_reducible refine LeO.bind ?_ (fun _ => ?_))
      | exact ih0 _ _ _
      | exact ih1 _ _ _ _
      | exact ih2 _ _ _ _ _
      | exact LeO.none _
      | refine LeO.ite ?_ ?_
      | refine LeO.bind ?_ (fun _ => ?_)
theorem dolmenref1_Unvarint.mono : ∀ a0 k, LeO (dolmenref1_Unvarint.f k a0) (dolmenref1_Unvarint.f (k + 1) a0) := by
  intro a0 k
  obtain ⟨ih0, ih1, ih2⟩ := dolmenref1_Unvarint.mono_l k
  unfold dolmenref1_Unvarint.f
  repeat' first
      | (with_reducible exact ih0 _ _ _)
      | (with_reducible exact ih1 _ _ _ _)
      | (with_reducible exact ih2 _ _ _ _ _)
      | (with_reducible exact LeO.refl _)
      | (with_reducible exact LeO.none _)
      | (with_reducible refine LeO.ite ?_ ?_)
      | (with_reducible refine LeO.bind ?_ (fun _ => ?_))
      | exact ih0 _ _ _
      | exact ih1 _ _ _ _
      | exact ih2 _ _ _ _ _
      | exact LeO.none _
      | refine LeO.ite ?_ ?_
      | refine LeO.bind ?_ (fun _ => ?_)
set_option maxHeartbeats 8000000 in
set_option maxRecDepth 100000 in
theorem dolmenref1_Unvarint.calls (k : Nat) (A0 : Option Addr) (c0 : Nat) (l0 : List Int) (r1 : Int) (r2 : Int) (w : World) (hr0 : Kd.C (Kd.int .u8) w A0 l0.length l0) (hc0 : l0.length ≤ c0) (h : dolmenref1_Unvarint.f k l0 = some (r1, r2)) :
    Calls Try.prog 20 #[.slice A0 l0.length c0] w fun e w' => e = .returned (.tuple #[.int .u64 r1, .int .i64 r2]) ∧ Drawn0 w w' := by
  have HR0 := Aside0.mk hr0
  have HC0 := Aside0.mk hc0
  clear hr0 hc0
  have H : (dolmenref1_Unvarint.l0 k l0 0 0) = some (r1, r2) := h
  clear h
  have H' := Aside0.mk H
  clear H
  go_enter Try.func20, Try.ntmps20
  go_wp2
  go_loopg [4, 5] k (fun kq v4 v5 w' => ∃ (x4_1 : Int) (x5_1 : Int), v4 = .int .u64 x4_1 ∧ v5 = .int .i64 x5_1 ∧ Aside0 (dolmenref1_Unvarint.l0 kq l0 x4_1 x5_1 = some (r1, r2)) ∧ Aside0 (kq ≤ k) ∧ Drawn0 w w')
  case atStart => exact ⟨(0), (0), (by first | rfl | (simp; done) | (simp [*]; done)), (by first | rfl | (simp; done) | (simp [*]; done)), H', ⟨Nat.le_refl _⟩, by repeat (first | exact Drawn0.refl _ | apply Drawn0.step)⟩
  case round =>
    clear H'
    obtain ⟨x4_1, x5_1, rfl, rfl, HA, HK1, ⟨m1, rfl⟩⟩ := hrel
    cases gk with
    | zero => exact absurd HA.out (by simp [dolmenref1_Unvarint.l0])
    | succ k1 =>
      have H := HA.out
      clear HA
      simp only [dolmenref1_Unvarint.l0] at H
      have HC2 := Aside0.mk H
      clear H
      go_upto_region 3 with (fail)
      go_cut [14] (fun v14 wc => ∃ (kq : Nat) (x14_1 : Bool), v14 = .bool x14_1 ∧ Aside0 (dolmenref1_Unvarint.j1 kq l0 x4_1 x5_1 x14_1 = some (r1, r2)) ∧ Aside0 (kq ≤ k1) ∧ Drawn0 w wc)
      case first =>
        have H := HC2.out
        clear HC2
        by_cases c3 : x5_1 < (l0.length : Int)
        · rw [if_pos c3] at H
          have c3b0 : decide (x5_1 < (l0.length : Int)) = true := decide_eq_true c3
          clear c3
          (first | rw [c3b0] | (simp only [i64_w, i32_w]; rw [c3b0]) | skip)
          have H' := Aside0.mk H
          clear H
          go_wp2
          go_meet
          case rel => exact ⟨_, (decide (x5_1 < 10)), (by first | rfl | (simp; done) | (simp [*]; done)), H', ⟨by have := HK1.out; first | omega | exact Nat.le_refl _⟩, by repeat (first | exact Drawn0.refl _ | apply Drawn0.step)⟩
        · rw [if_neg c3] at H
          have c3b0 : decide (x5_1 < (l0.length : Int)) = false := decide_eq_false c3
          clear c3
          (first | rw [c3b0] | (simp only [i64_w, i32_w]; rw [c3b0]) | skip)
          have H' := Aside0.mk H
          clear H
          go_wp2
          go_meet
          case rel => exact ⟨_, (false), (by first | rfl | (simp; done) | (simp [*]; done)), H', ⟨by have := HK1.out; first | omega | exact Nat.le_refl _⟩, by repeat (first | exact Drawn0.refl _ | apply Drawn0.step)⟩
      case rest =>
        clear HC2
        try clear c2
        try clear p2
        try clear c3
        try clear c3b0
        obtain ⟨kq, x14_1, rfl, HA, HJ1, ⟨mc1, rfl⟩⟩ := hcut
        cases kq with
        | zero => exact absurd HA.out (by simp [dolmenref1_Unvarint.j1])
        | succ kj1 =>
          have H := HA.out
          clear HA
          simp only [dolmenref1_Unvarint.j1] at H
          by_cases c4 : x14_1 = true
          · subst c4
            have H1 : (if 0 ≤ x5_1 then (if x5_1 < (l0.length : Int) then (if x5_1 = 9 then (dolmenref1_Unvarint.j2 kj1 l0 x4_1 x5_1 (rd l0 x5_1) (decide ((rd l0 x5_1) > 1))) else (dolmenref1_Unvarint.j2 kj1 l0 x4_1 x5_1 (rd l0 x5_1) false)) else (none)) else (none)) = some (r1, r2) := by rw [if_pos rfl] at H; exact H
            clear H
            have H := H1
            clear H1
            by_cases c5 : 0 ≤ x5_1
            · rw [if_pos c5] at H
              have c5b0 : decide (0 ≤ x5_1) = true := decide_eq_true c5
              clear c5
              by_cases c6 : x5_1 < (l0.length : Int)
              · rw [if_pos c6] at H
                have c6b0 : decide (x5_1 < (l0.length : Int)) = true := decide_eq_true c6
                clear c6
                have HC7 := Aside0.mk H
                clear H
                have p128 : 0 ≤ (x5_1 : Int) := of_decide_eq_true (by first | (with_reducible assumption) | assumption)
                have q128 : x5_1 < (l0.length : Int) := of_decide_eq_true (by first | (with_reducible assumption) | assumption)
                obtain ⟨ad128, e128, hx128_0⟩ := Kd.at_int HR0.out x5_1 p128 q128
                cases e128
                replace p128 := eq_true p128
                replace q128 := eq_true q128
                go_upto_region 6 with (fail)
                go_cut [26] (fun v26 wc => ∃ (kq : Nat) (x26_6 : Bool), v26 = .bool x26_6 ∧ Aside0 (dolmenref1_Unvarint.j2 kq l0 x4_1 x5_1 (rd l0 x5_1) x26_6 = some (r1, r2)) ∧ Aside0 (kq ≤ kj1) ∧ Drawn0 w wc)
                case first =>
                  have H := HC7.out
                  clear HC7
                  by_cases c8 : x5_1 = 9
                  · rw [if_pos c8] at H
                    have c8b0 : (x5_1 == 9) = true := beq_iff_eq.mpr c8
                    have c8b1 : (x5_1 != 9) = false := bne_eq_false_iff_eq.mpr c8
                    clear c8
                    (first | rw [c8b0] | (simp only [i64_w, i32_w]; rw [c8b0]) | skip)
                    have H' := Aside0.mk H
                    clear H
                    go_wp2
                    go_meet
                    case rel => exact ⟨_, (decide ((rd l0 x5_1) > 1)), (by first | rfl | (simp; done) | (simp [*]; done)), H', ⟨by have := HK1.out; have := HJ1.out; first | omega | exact Nat.le_refl _⟩, by repeat (first | exact Drawn0.refl _ | apply Drawn0.step)⟩
                  · rw [if_neg c8] at H
                    have c8b0 : (x5_1 == 9) = false := beq_eq_false_iff_ne.mpr c8
                    have c8b1 : (x5_1 != 9) = true := bne_iff_ne.mpr c8
                    (first | rw [c8b0] | (simp only [i64_w, i32_w]; rw [c8b0]) | skip)
                    have H' := Aside0.mk H
                    clear H
                    go_wp2
                    go_meet
                    case rel => exact ⟨_, (false), (by first | rfl | (simp; done) | (simp [*]; done)), H', ⟨by have := HK1.out; have := HJ1.out; first | omega | exact Nat.le_refl _⟩, by repeat (first | exact Drawn0.refl _ | apply Drawn0.step)⟩
                case rest =>
                  clear HC7
                  try clear c1
                  try clear p1
                  try clear q1
                  try clear hx1
                  try clear c2
                  try clear p2
                  try clear c3
                  try clear c3b0
                  try clear c4
                  try clear c5
                  try clear c5b0
                  try clear c6
                  try clear c6b0
                  try clear c8
                  try clear c8b0
                  try clear c8b1
                  try clear hx128_0
                  try clear p128
                  try clear p2
                  try clear q128
                  obtain ⟨kq, x26_6, rfl, HA, HJ6, ⟨mc6, rfl⟩⟩ := hcut
                  cases kq with
                  | zero => exact absurd HA.out (by simp [dolmenref1_Unvarint.j2])
                  | succ kj6 =>
                    have H := HA.out
                    clear HA
                    simp only [dolmenref1_Unvarint.j2] at H
                    by_cases c9 : x26_6 = true
                    · subst c9
                      have H1 : (some (0, 0)) = some (r1, r2) := by rw [if_pos rfl] at H; exact H
                      clear H
                      have H := H1
                      clear H1
                      simp only [Option.some.injEq, Prod.mk.injEq] at H
                      obtain ⟨rfl, rfl⟩ := H
                      go_wp2
                      go_ret2
                      exact ⟨by first | rfl | (simp; done) | (simp [*]; done), by repeat (first | exact Drawn0.refl _ | apply Drawn0.step)⟩
                    · replace c9 := Bool.eq_false_iff.mpr c9
                      subst c9
                      have H1 : (if 0 ≤ (wrap64 (7 * x5_1)) then (if (rd l0 x5_1) < 128 then (if (rd l0 x5_1) = 0 then (if x5_1 > 0 then (some (0, 0)) else (some (Go.bits .or .u64 x4_1 (shl .u64 (IntKind.u64.wrap (Go.bits .and .u8 (rd l0 x5_1) 127)) (wrap64 (7 * x5_1))), wrap64 (x5_1 + 1)))) else (some (Go.bits .or .u64 x4_1 (shl .u64 (IntKind.u64.wrap (Go.bits .and .u8 (rd l0 x5_1) 127)) (wrap64 (7 * x5_1))), wrap64 (x5_1 + 1)))) else (dolmenref1_Unvarint.l0 kj6 l0 (Go.bits .or .u64 x4_1 (shl .u64 (IntKind.u64.wrap (Go.bits .and .u8 (rd l0 x5_1) 127)) (wrap64 (7 * x5_1)))) (wrap64 (x5_1 + 1)))) else (none)) = some (r1, r2) := by rw [if_neg (show ¬ (false = true) by decide)] at H; exact H
                      clear H
                      have H := H1
                      clear H1
                      obtain ⟨ji10, hji10⟩ : ∃ j_ : Int, (wrap64 (7 * x5_1)) = j_ := ⟨_, rfl⟩
                      replace H : (if 0 ≤ (ji10) then (if (rd l0 x5_1) < 128 then (if (rd l0 x5_1) = 0 then (if x5_1 > 0 then (some (0, 0)) else (some (Go.bits .or .u64 x4_1 (shl .u64 (IntKind.u64.wrap (Go.bits .and .u8 (rd l0 x5_1) 127)) (ji10)), wrap64 (x5_1 + 1)))) else (some (Go.bits .or .u64 x4_1 (shl .u64 (IntKind.u64.wrap (Go.bits .and .u8 (rd l0 x5_1) 127)) (ji10)), wrap64 (x5_1 + 1)))) else (dolmenref1_Unvarint.l0 kj6 l0 (Go.bits .or .u64 x4_1 (shl .u64 (IntKind.u64.wrap (Go.bits .and .u8 (rd l0 x5_1) 127)) (ji10))) (wrap64 (x5_1 + 1)))) else (none)) = some (r1, r2) := by first | (rw [hji10] at H; exact H) | (simp only [hji10] at H ⊢; exact H)
                      have hji10w : (IntKind.i64.wrap (7 * x5_1)) = ji10 := (i64_w _).trans hji10
                      by_cases c11 : 0 ≤ (ji10)
                      · rw [if_pos c11] at H
                        have c11b0 := eq_true c11
                        have c11b1 : decide (0 ≤ (ji10)) = true := decide_eq_true c11
                        clear c11
                        obtain ⟨ji12, hji12⟩ : ∃ j_ : Int, (shl .u64 (IntKind.u64.wrap (Go.bits .and .u8 (rd l0 x5_1) 127)) (ji10)) = j_ := ⟨_, rfl⟩
                        replace H : (if (rd l0 x5_1) < 128 then (if (rd l0 x5_1) = 0 then (if x5_1 > 0 then (some (0, 0)) else (some (Go.bits .or .u64 x4_1 (ji12), wrap64 (x5_1 + 1)))) else (some (Go.bits .or .u64 x4_1 (ji12), wrap64 (x5_1 + 1)))) else (dolmenref1_Unvarint.l0 kj6 l0 (Go.bits .or .u64 x4_1 (ji12)) (wrap64 (x5_1 + 1)))) = some (r1, r2) := by first | (rw [hji12] at H; exact H) | (simp only [hji12] at H ⊢; exact H)
                        have hji12_ : (IntKind.u64.wrap ((IntKind.u64.wrap (Go.bits .and .u8 (rd l0 x5_1) 127)) * 2 ^ min (ji10).toNat 64)) = ji12 := hji12
                        have hji12z : (ji10) ≤ 64 → (IntKind.u64.wrap ((IntKind.u64.wrap (Go.bits .and .u8 (rd l0 x5_1) 127)) * 2 ^ (ji10).toNat)) = ji12 := shl_small hji12
                        by_cases c13 : (rd l0 x5_1) < 128
                        · rw [if_pos c13] at H
                          have c13b0 : decide ((rd l0 x5_1) < 128) = true := decide_eq_true c13
                          clear c13
                          by_cases c14 : (rd l0 x5_1) = 0
                          · rw [if_pos c14] at H
                            have c14b0 : ((rd l0 x5_1) == 0) = true := beq_iff_eq.mpr c14
                            have c14b1 : ((rd l0 x5_1) != 0) = false := bne_eq_false_iff_eq.mpr c14
                            clear c14
                            by_cases c15 : x5_1 > 0
                            · rw [if_pos c15] at H
                              have c15b0 : decide (0 < x5_1) = true := decide_eq_true c15
                              clear c15
                              simp only [Option.some.injEq, Prod.mk.injEq] at H
                              obtain ⟨rfl, rfl⟩ := H
                              go_wp2
                              go_ret2
                              exact ⟨by first | rfl | (simp; done) | (simp only [← hji10, ← hji12] <;> (first | rfl | simp)) | (simp [*]; done), by repeat (first | exact Drawn0.refl _ | apply Drawn0.step)⟩
                            · rw [if_neg c15] at H
                              have c15b0 : decide (0 < x5_1) = false := decide_eq_false c15
                              clear c15
                              simp only [Option.some.injEq, Prod.mk.injEq] at H
                              obtain ⟨rfl, rfl⟩ := H
                              go_wp2
                              go_ret2
                              exact ⟨by first | rfl | (simp; done) | (simp only [← hji10, ← hji12] <;> (first | rfl | simp)) | (simp [*]; done), by repeat (first | exact Drawn0.refl _ | apply Drawn0.step)⟩
                          · rw [if_neg c14] at H
                            have c14b0 : ((rd l0 x5_1) == 0) = false := beq_eq_false_iff_ne.mpr c14
                            have c14b1 : ((rd l0 x5_1) != 0) = true := bne_iff_ne.mpr c14
                            simp only [Option.some.injEq, Prod.mk.injEq] at H
                            obtain ⟨rfl, rfl⟩ := H
                            go_wp2
                            go_ret2
                            exact ⟨by first | rfl | (simp; done) | (simp only [← hji10, ← hji12] <;> (first | rfl | simp)) | (simp [*]; done), by repeat (first | exact Drawn0.refl _ | apply Drawn0.step)⟩
                        · rw [if_neg c13] at H
                          have c13b0 : decide ((rd l0 x5_1) < 128) = false := decide_eq_false c13
                          clear c13
                          have H' := Aside0.mk H
                          clear H
                          go_wp2
                          go_roundg kj6
                          case measure => have := HK1.out; have := HJ1.out; have := HJ6.out; omega
                          case rel => exact ⟨(Go.bits .or .u64 x4_1 (ji12)), (wrap64 (x5_1 + 1)), (by first | rfl | (simp; done) | (simp only [← hji12] <;> (first | rfl | simp)) | (simp [*]; done)), (by first | rfl | (simp; done) | (simp [*]; done)), H', ⟨by have := HK1.out; have := HJ1.out; have := HJ6.out; omega⟩, by repeat (first | exact Drawn0.refl _ | apply Drawn0.step)⟩
                      · rw [if_neg c11] at H
                        exact absurd H (by simp)
              · rw [if_neg c6] at H
                exact absurd H (by simp)
            · rw [if_neg c5] at H
              exact absurd H (by simp)
          · replace c4 := Bool.eq_false_iff.mpr c4
            subst c4
            have H1 : (some (0, 0)) = some (r1, r2) := by rw [if_neg (show ¬ (false = true) by decide)] at H; exact H
            clear H
            have H := H1
            clear H1
            simp only [Option.some.injEq, Prod.mk.injEq] at H
            obtain ⟨rfl, rfl⟩ := H
            go_wp2
            go_ret2
            exact ⟨by first | rfl | (simp; done) | (simp [*]; done), by repeat (first | exact Drawn0.refl _ | apply Drawn0.step)⟩

/-! ### bits_Untext: function 21 -/
def bits_Untext.f (k : Nat) (l0 : List Int) : Option (ByteArray × Int × Option Int) := (bits_Unvarint.f k l0).bind fun bt129 => (if bt129.2 = 0 then (some ((⟨#[]⟩ : ByteArray), 0, some 14)) else (if bt129.1 > (IntKind.u64.wrap (wrap64 ((l0.length : Int) - bt129.2))) then (some ((⟨#[]⟩ : ByteArray), 0, some 14)) else (if 0 ≤ bt129.2 then (if bt129.2 ≤ (wrap64 (bt129.2 + (wrap64 (bt129.1)))) then (if (wrap64 (bt129.2 + (wrap64 (bt129.1)))) ≤ (l0.length : Int) then (some (strOfNums ((l0.take ((wrap64 (bt129.2 + (wrap64 (bt129.1)))) : Int).toNat).drop (bt129.2 : Int).toNat), wrap64 (bt129.2 + (wrap64 (bt129.1))), none)) else (none)) else (none)) else (none))))
theorem bits_Untext.mono : ∀ a0 k, LeO (bits_Untext.f k a0) (bits_Untext.f (k + 1) a0) := by
  intro a0 k
  unfold bits_Untext.f
  repeat' first
      | (with_reducible exact bits_Unvarint.mono _ _)
      | (with_reducible exact LeO.refl _)
      | (with_reducible exact LeO.none _)
      | (with_reducible refine LeO.ite ?_ ?_)
      | (with_reducible refine LeO.bind ?_ (fun _ => ?_))
      | exact bits_Unvarint.mono _ _
      | exact LeO.none _
      | refine LeO.ite ?_ ?_
      | refine LeO.bind ?_ (fun _ => ?_)
set_option maxHeartbeats 8000000 in
set_option maxRecDepth 100000 in
theorem bits_Untext.calls (k : Nat) (A0 : Option Addr) (c0 : Nat) (l0 : List Int) (r1 : ByteArray) (r2 : Int) (r3 : Option Int) (w : World) (hr0 : Kd.C (Kd.int .u8) w A0 l0.length l0) (hc0 : l0.length ≤ c0) (h : bits_Untext.f k l0 = some (r1, r2, r3)) :
    Calls Try.prog 21 #[.slice A0 l0.length c0] w fun e w' => e = .returned (.tuple #[.string r1, .int .i64 r2, errW r3]) ∧ Drawn0 w w' := by
  have hu33 := Try.underlying33
  have hu51 := Try.underlying51
  have HR0 := Aside0.mk hr0
  have HC0 := Aside0.mk hc0
  clear hr0 hc0
  have H : ((bits_Unvarint.f k l0).bind fun bt129 => (if bt129.2 = 0 then (some ((⟨#[]⟩ : ByteArray), 0, some 14)) else (if bt129.1 > (IntKind.u64.wrap (wrap64 ((l0.length : Int) - bt129.2))) then (some ((⟨#[]⟩ : ByteArray), 0, some 14)) else (if 0 ≤ bt129.2 then (if bt129.2 ≤ (wrap64 (bt129.2 + (wrap64 (bt129.1)))) then (if (wrap64 (bt129.2 + (wrap64 (bt129.1)))) ≤ (l0.length : Int) then (some (strOfNums ((l0.take ((wrap64 (bt129.2 + (wrap64 (bt129.1)))) : Int).toNat).drop (bt129.2 : Int).toNat), wrap64 (bt129.2 + (wrap64 (bt129.1))), none)) else (none)) else (none)) else (none))))) = some (r1, r2, r3) := h
  clear h
  replace H := Option.bind_eq_some_iff.mp H
  obtain ⟨⟨t129, t130⟩, A20, H⟩ := H
  replace H : (if t130 = 0 then (some ((⟨#[]⟩ : ByteArray), 0, some 14)) else (if t129 > (IntKind.u64.wrap (wrap64 ((l0.length : Int) - t130))) then (some ((⟨#[]⟩ : ByteArray), 0, some 14)) else (if 0 ≤ t130 then (if t130 ≤ (wrap64 (t130 + (wrap64 (t129)))) then (if (wrap64 (t130 + (wrap64 (t129)))) ≤ (l0.length : Int) then (some (strOfNums ((l0.take ((wrap64 (t130 + (wrap64 (t129)))) : Int).toNat).drop (t130 : Int).toNat), wrap64 (t130 + (wrap64 (t129))), none)) else (none)) else (none)) else (none)))) = some (r1, r2, r3) := H
  have A2 := Aside0.mk A20
  clear A20
  by_cases c3 : t130 = 0
  · rw [if_pos c3] at H
    have c3b0 : (t130 == 0) = true := beq_iff_eq.mpr c3
    have c3b1 : (t130 != 0) = false := bne_eq_false_iff_eq.mpr c3
    clear c3
    simp only [Option.some.injEq, Prod.mk.injEq] at H
    obtain ⟨rfl, rfl, rfl⟩ := H
    go_enter Try.func21, Try.ntmps21
    go_wp2_with (first | ((with_reducible refine gate_callee (f := 12) rfl ?_); refine goesL_ (some 10) rfl rfl Try.func12 (by kernel_rfl) rfl #[.slice A0 l0.length c0] rfl (by (try simp only [List.map_toArray, List.map_cons, List.map_nil]); first | done | rfl | (simp only [List.length_drop, List.length_take]; rfl)) ?_; (with_reducible refine (bits_Unvarint.calls k _ _ l0 t129 t130 _ ?side1 ?side2 A2.out).mono ?_); (case side1 => repeat (first | exact HR0.out | (with_reducible refine Kd.C_alloc ?_ _) | (with_reducible refine Kd.C_drewN ?_ _) | (with_reducible refine Kd.C_drew ?_))); (case side2 => exact HC0.out); rintro e w' ⟨rfl, ⟨nd, rfl⟩⟩; refine ⟨_, rfl, ?_⟩))
    go_ret3
    exact ⟨by first | rfl | (simp; done) | (simp [*]; done), by repeat (first | exact Drawn0.refl _ | apply Drawn0.step)⟩
  · rw [if_neg c3] at H
    have c3b0 : (t130 == 0) = false := beq_eq_false_iff_ne.mpr c3
    have c3b1 : (t130 != 0) = true := bne_iff_ne.mpr c3
    by_cases c4 : t129 > (IntKind.u64.wrap (wrap64 ((l0.length : Int) - t130)))
    · rw [if_pos c4] at H
      have c4b0 : decide ((IntKind.u64.wrap (wrap64 ((l0.length : Int) - t130))) < t129) = true := decide_eq_true c4
      clear c4
      simp only [Option.some.injEq, Prod.mk.injEq] at H
      obtain ⟨rfl, rfl, rfl⟩ := H
      go_enter Try.func21, Try.ntmps21
      go_wp2_with (first | ((with_reducible refine gate_callee (f := 12) rfl ?_); refine goesL_ (some 10) rfl rfl Try.func12 (by kernel_rfl) rfl #[.slice A0 l0.length c0] rfl (by (try simp only [List.map_toArray, List.map_cons, List.map_nil]); first | done | rfl | (simp only [List.length_drop, List.length_take]; rfl)) ?_; (with_reducible refine (bits_Unvarint.calls k _ _ l0 t129 t130 _ ?side1 ?side2 A2.out).mono ?_); (case side1 => repeat (first | exact HR0.out | (with_reducible refine Kd.C_alloc ?_ _) | (with_reducible refine Kd.C_drewN ?_ _) | (with_reducible refine Kd.C_drew ?_))); (case side2 => exact HC0.out); rintro e w' ⟨rfl, ⟨nd, rfl⟩⟩; refine ⟨_, rfl, ?_⟩))
      go_ret3
      exact ⟨by first | rfl | (simp; done) | (simp [*]; done), by repeat (first | exact Drawn0.refl _ | apply Drawn0.step)⟩
    · rw [if_neg c4] at H
      have c4b0 : decide ((IntKind.u64.wrap (wrap64 ((l0.length : Int) - t130))) < t129) = false := decide_eq_false c4
      clear c4
      by_cases c5 : 0 ≤ t130
      · rw [if_pos c5] at H
        have c5b0 := eq_true c5
        have c5b1 : decide (0 ≤ t130) = true := decide_eq_true c5
        clear c5
        by_cases c6 : t130 ≤ (wrap64 (t130 + (wrap64 (t129))))
        · rw [if_pos c6] at H
          have c6b0 := eq_true c6
          have c6b1 : decide (t130 ≤ (wrap64 (t130 + (wrap64 (t129))))) = true := decide_eq_true c6
          by_cases c7 : (wrap64 (t130 + (wrap64 (t129)))) ≤ (l0.length : Int)
          · rw [if_pos c7] at H
            have c7b0 := eq_true c7
            have c7b1 : decide ((wrap64 (t130 + (wrap64 (t129)))) ≤ (l0.length : Int)) = true := decide_eq_true c7
            simp only [Option.some.injEq, Prod.mk.injEq] at H
            obtain ⟨rfl, rfl, rfl⟩ := H
            go_enter Try.func21, Try.ntmps21
            go_wp2_with (first | ((with_reducible refine gate_callee (f := 12) rfl ?_); refine goesL_ (some 10) rfl rfl Try.func12 (by kernel_rfl) rfl #[.slice A0 l0.length c0] rfl (by (try simp only [List.map_toArray, List.map_cons, List.map_nil]); first | done | rfl | (simp only [List.length_drop, List.length_take]; rfl)) ?_; (with_reducible refine (bits_Unvarint.calls k _ _ l0 t129 t130 _ ?side1 ?side2 A2.out).mono ?_); (case side1 => repeat (first | exact HR0.out | (with_reducible refine Kd.C_alloc ?_ _) | (with_reducible refine Kd.C_drewN ?_ _) | (with_reducible refine Kd.C_drew ?_))); (case side2 => exact HC0.out); rintro e w' ⟨rfl, ⟨nd, rfl⟩⟩; refine ⟨_, rfl, ?_⟩; obtain ⟨i08, hi08, _, hsz8, _⟩ := info_parts info5; obtain ⟨A8, hcut8, hA8, hC8⟩ := print_mid_of (P := Try.prog) (Value.int .u8) 0 27 5 .i64 .i64 Try.underlying27 hi08 hsz8 A0 c0 l0 t130 (wrap64 (t130 + (wrap64 (t129)))) (of_decide_eq_true (by first | (with_reducible assumption) | assumption)) (by first | omega | exact of_decide_eq_true (by first | (with_reducible assumption) | assumption)) (of_decide_eq_true (by first | (with_reducible assumption) | assumption)) HC0.out; have HR131 := Aside0.mk (Kd.C_of_reads (h1 := fun _ => rfl) (hA8 _ (Kd.reads_of_C HR0.out))); have HC131 := Aside0.mk hC8; clear hA8 hC8 hi08 hsz8; have hcv9 := fun n_ => Kd.C_string (P := Try.prog) (A := A8) (c := (c0 - t130.toNat)) Try.underlying27 Try.underlying5 Try.underlying9 (Kd.C_drewN HR131.out n_); (try simp only [List.length_drop, List.length_take, Nat.min_eq_left (show (wrap64 (t130 + wrap64 t129)).toNat ≤ l0.length by omega)] at hcv9)))
            go_ret3
            exact ⟨by first | rfl | (simp; done) | (simp [*]; done), by repeat (first | exact Drawn0.refl _ | apply Drawn0.step)⟩
          · rw [if_neg c7] at H
            exact absurd H (by simp)
        · rw [if_neg c6] at H
          exact absurd H (by simp)
      · rw [if_neg c5] at H
        exact absurd H (by simp)

/-! ### dolmenref1_Untext: function 22 -/
def dolmenref1_Untext.f (k : Nat) (l0 : List Int) : Option (ByteArray × Int × Int) := (dolmenref1_Unvarint.f k l0).bind fun bt132 => (if bt132.2 = 0 then (some ((⟨#[]⟩ : ByteArray), 0, 14)) else (if bt132.1 > (IntKind.u64.wrap (wrap64 ((l0.length : Int) - bt132.2))) then (some ((⟨#[]⟩ : ByteArray), 0, 14)) else (if 0 ≤ bt132.2 then (if bt132.2 ≤ (wrap64 (bt132.2 + (wrap64 (bt132.1)))) then (if (wrap64 (bt132.2 + (wrap64 (bt132.1)))) ≤ (l0.length : Int) then (some (strOfNums ((l0.take ((wrap64 (bt132.2 + (wrap64 (bt132.1)))) : Int).toNat).drop (bt132.2 : Int).toNat), wrap64 (bt132.2 + (wrap64 (bt132.1))), 0)) else (none)) else (none)) else (none))))
theorem dolmenref1_Untext.mono : ∀ a0 k, LeO (dolmenref1_Untext.f k a0) (dolmenref1_Untext.f (k + 1) a0) := by
  intro a0 k
  unfold dolmenref1_Untext.f
  repeat' first
      | (with_reducible exact dolmenref1_Unvarint.mono _ _)
      | (with_reducible exact LeO.refl _)
      | (with_reducible exact LeO.none _)
      | (with_reducible refine LeO.ite ?_ ?_)
      | (with_reducible refine LeO.bind ?_ (fun _ => ?_))
      | exact dolmenref1_Unvarint.mono _ _
      | exact LeO.none _
      | refine LeO.ite ?_ ?_
      | refine LeO.bind ?_ (fun _ => ?_)
set_option maxHeartbeats 8000000 in
set_option maxRecDepth 100000 in
theorem dolmenref1_Untext.calls (k : Nat) (A0 : Option Addr) (c0 : Nat) (l0 : List Int) (r1 : ByteArray) (r2 : Int) (r3 : Int) (w : World) (hr0 : Kd.C (Kd.int .u8) w A0 l0.length l0) (hc0 : l0.length ≤ c0) (h : dolmenref1_Untext.f k l0 = some (r1, r2, r3)) :
    Calls Try.prog 22 #[.slice A0 l0.length c0] w fun e w' => e = .returned (.tuple #[.string r1, .int .i64 r2, .int .i64 r3]) ∧ Drawn0 w w' := by
  have HR0 := Aside0.mk hr0
  have HC0 := Aside0.mk hc0
  clear hr0 hc0
  have H : ((dolmenref1_Unvarint.f k l0).bind fun bt132 => (if bt132.2 = 0 then (some ((⟨#[]⟩ : ByteArray), 0, 14)) else (if bt132.1 > (IntKind.u64.wrap (wrap64 ((l0.length : Int) - bt132.2))) then (some ((⟨#[]⟩ : ByteArray), 0, 14)) else (if 0 ≤ bt132.2 then (if bt132.2 ≤ (wrap64 (bt132.2 + (wrap64 (bt132.1)))) then (if (wrap64 (bt132.2 + (wrap64 (bt132.1)))) ≤ (l0.length : Int) then (some (strOfNums ((l0.take ((wrap64 (bt132.2 + (wrap64 (bt132.1)))) : Int).toNat).drop (bt132.2 : Int).toNat), wrap64 (bt132.2 + (wrap64 (bt132.1))), 0)) else (none)) else (none)) else (none))))) = some (r1, r2, r3) := h
  clear h
  replace H := Option.bind_eq_some_iff.mp H
  obtain ⟨⟨t132, t133⟩, A20, H⟩ := H
  replace H : (if t133 = 0 then (some ((⟨#[]⟩ : ByteArray), 0, 14)) else (if t132 > (IntKind.u64.wrap (wrap64 ((l0.length : Int) - t133))) then (some ((⟨#[]⟩ : ByteArray), 0, 14)) else (if 0 ≤ t133 then (if t133 ≤ (wrap64 (t133 + (wrap64 (t132)))) then (if (wrap64 (t133 + (wrap64 (t132)))) ≤ (l0.length : Int) then (some (strOfNums ((l0.take ((wrap64 (t133 + (wrap64 (t132)))) : Int).toNat).drop (t133 : Int).toNat), wrap64 (t133 + (wrap64 (t132))), 0)) else (none)) else (none)) else (none)))) = some (r1, r2, r3) := H
  have A2 := Aside0.mk A20
  clear A20
  by_cases c3 : t133 = 0
  · rw [if_pos c3] at H
    have c3b0 : (t133 == 0) = true := beq_iff_eq.mpr c3
    have c3b1 : (t133 != 0) = false := bne_eq_false_iff_eq.mpr c3
    clear c3
    simp only [Option.some.injEq, Prod.mk.injEq] at H
    obtain ⟨rfl, rfl, rfl⟩ := H
    go_enter Try.func22, Try.ntmps22
    go_wp2_with (first | ((with_reducible refine gate_callee (f := 20) rfl ?_); refine goesL_ (some 9) rfl rfl Try.func20 (by kernel_rfl) rfl #[.slice A0 l0.length c0] rfl (by (try simp only [List.map_toArray, List.map_cons, List.map_nil]); first | done | rfl | (simp only [List.length_drop, List.length_take]; rfl)) ?_; (with_reducible refine (dolmenref1_Unvarint.calls k _ _ l0 t132 t133 _ ?side1 ?side2 A2.out).mono ?_); (case side1 => repeat (first | exact HR0.out | (with_reducible refine Kd.C_alloc ?_ _) | (with_reducible refine Kd.C_drewN ?_ _) | (with_reducible refine Kd.C_drew ?_))); (case side2 => exact HC0.out); rintro e w' ⟨rfl, ⟨nd, rfl⟩⟩; refine ⟨_, rfl, ?_⟩))
    go_ret3
    exact ⟨by first | rfl | (simp; done) | (simp [*]; done), by repeat (first | exact Drawn0.refl _ | apply Drawn0.step)⟩
  · rw [if_neg c3] at H
    have c3b0 : (t133 == 0) = false := beq_eq_false_iff_ne.mpr c3
    have c3b1 : (t133 != 0) = true := bne_iff_ne.mpr c3
    by_cases c4 : t132 > (IntKind.u64.wrap (wrap64 ((l0.length : Int) - t133)))
    · rw [if_pos c4] at H
      have c4b0 : decide ((IntKind.u64.wrap (wrap64 ((l0.length : Int) - t133))) < t132) = true := decide_eq_true c4
      clear c4
      simp only [Option.some.injEq, Prod.mk.injEq] at H
      obtain ⟨rfl, rfl, rfl⟩ := H
      go_enter Try.func22, Try.ntmps22
      go_wp2_with (first | ((with_reducible refine gate_callee (f := 20) rfl ?_); refine goesL_ (some 9) rfl rfl Try.func20 (by kernel_rfl) rfl #[.slice A0 l0.length c0] rfl (by (try simp only [List.map_toArray, List.map_cons, List.map_nil]); first | done | rfl | (simp only [List.length_drop, List.length_take]; rfl)) ?_; (with_reducible refine (dolmenref1_Unvarint.calls k _ _ l0 t132 t133 _ ?side1 ?side2 A2.out).mono ?_); (case side1 => repeat (first | exact HR0.out | (with_reducible refine Kd.C_alloc ?_ _) | (with_reducible refine Kd.C_drewN ?_ _) | (with_reducible refine Kd.C_drew ?_))); (case side2 => exact HC0.out); rintro e w' ⟨rfl, ⟨nd, rfl⟩⟩; refine ⟨_, rfl, ?_⟩))
      go_ret3
      exact ⟨by first | rfl | (simp; done) | (simp [*]; done), by repeat (first | exact Drawn0.refl _ | apply Drawn0.step)⟩
    · rw [if_neg c4] at H
      have c4b0 : decide ((IntKind.u64.wrap (wrap64 ((l0.length : Int) - t133))) < t132) = false := decide_eq_false c4
      clear c4
      by_cases c5 : 0 ≤ t133
      · rw [if_pos c5] at H
        have c5b0 := eq_true c5
        have c5b1 : decide (0 ≤ t133) = true := decide_eq_true c5
        clear c5
        by_cases c6 : t133 ≤ (wrap64 (t133 + (wrap64 (t132))))
        · rw [if_pos c6] at H
          have c6b0 := eq_true c6
          have c6b1 : decide (t133 ≤ (wrap64 (t133 + (wrap64 (t132))))) = true := decide_eq_true c6
          by_cases c7 : (wrap64 (t133 + (wrap64 (t132)))) ≤ (l0.length : Int)
          · rw [if_pos c7] at H
            have c7b0 := eq_true c7
            have c7b1 : decide ((wrap64 (t133 + (wrap64 (t132)))) ≤ (l0.length : Int)) = true := decide_eq_true c7
            simp only [Option.some.injEq, Prod.mk.injEq] at H
            obtain ⟨rfl, rfl, rfl⟩ := H
            go_enter Try.func22, Try.ntmps22
            go_wp2_with (first | ((with_reducible refine gate_callee (f := 20) rfl ?_); refine goesL_ (some 9) rfl rfl Try.func20 (by kernel_rfl) rfl #[.slice A0 l0.length c0] rfl (by (try simp only [List.map_toArray, List.map_cons, List.map_nil]); first | done | rfl | (simp only [List.length_drop, List.length_take]; rfl)) ?_; (with_reducible refine (dolmenref1_Unvarint.calls k _ _ l0 t132 t133 _ ?side1 ?side2 A2.out).mono ?_); (case side1 => repeat (first | exact HR0.out | (with_reducible refine Kd.C_alloc ?_ _) | (with_reducible refine Kd.C_drewN ?_ _) | (with_reducible refine Kd.C_drew ?_))); (case side2 => exact HC0.out); rintro e w' ⟨rfl, ⟨nd, rfl⟩⟩; refine ⟨_, rfl, ?_⟩; obtain ⟨i08, hi08, _, hsz8, _⟩ := info_parts info5; obtain ⟨A8, hcut8, hA8, hC8⟩ := print_mid_of (P := Try.prog) (Value.int .u8) 0 27 5 .i64 .i64 Try.underlying27 hi08 hsz8 A0 c0 l0 t133 (wrap64 (t133 + (wrap64 (t132)))) (of_decide_eq_true (by first | (with_reducible assumption) | assumption)) (by first | omega | exact of_decide_eq_true (by first | (with_reducible assumption) | assumption)) (of_decide_eq_true (by first | (with_reducible assumption) | assumption)) HC0.out; have HR134 := Aside0.mk (Kd.C_of_reads (h1 := fun _ => rfl) (hA8 _ (Kd.reads_of_C HR0.out))); have HC134 := Aside0.mk hC8; clear hA8 hC8 hi08 hsz8; have hcv9 := fun n_ => Kd.C_string (P := Try.prog) (A := A8) (c := (c0 - t133.toNat)) Try.underlying27 Try.underlying5 Try.underlying9 (Kd.C_drewN HR134.out n_); (try simp only [List.length_drop, List.length_take, Nat.min_eq_left (show (wrap64 (t133 + wrap64 t132)).toNat ≤ l0.length by omega)] at hcv9)))
            go_ret3
            exact ⟨by first | rfl | (simp; done) | (simp [*]; done), by repeat (first | exact Drawn0.refl _ | apply Drawn0.step)⟩
          · rw [if_neg c7] at H
            exact absurd H (by simp)
        · rw [if_neg c6] at H
          exact absurd H (by simp)
      · rw [if_neg c5] at H
        exact absurd H (by simp)

end Go.Proofs.Ytfonkhikdaegpaa.PBitsVarints
