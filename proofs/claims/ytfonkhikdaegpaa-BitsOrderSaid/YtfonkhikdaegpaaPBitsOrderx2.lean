-- PRINTED BY print.sh 35421559b90ae4d0a3588c463048766b98c2df88dd9212a6774a882060cdf62d: not written by this session
import Derived.Test.YtfonkhikdaegpaaPBitsOrderx0
import Derived.Test.YtfonkhikdaegpaaPBitsOrderx1
namespace Go.Proofs.Ytfonkhikdaegpaa.PBitsOrder
open Go.RowKit Go.Proofs.YtfonkhikdaegpaaW.PrintWords Go.Proofs.YtfonkhikdaegpaaW.PrintLast Go.Proofs.YtfonkhikdaegpaaW.PrintMore
attribute [local go_sem] max2_int min2_int max_two min_two max_three min_three max_four min_four   -- for this text's walks alone
set_option linter.unusedVariables false
set_option linter.unusedSimpArgs false

/-! ### bits_Unvarint: function 12 -/
mutual
def bits_Unvarint.l0 : Nat → List Int → Int → Int → Option (Int × Int)
  | 0, _, _, _ => none
  | k + 1, x0, x2, x3 => if x3 < 10 then (bits_Unvarint.j1 k x0 x2 x3 (decide (x3 < (x0.length : Int)))) else (bits_Unvarint.j1 k x0 x2 x3 false)
def bits_Unvarint.j1 : Nat → List Int → Int → Int → Bool → Option (Int × Int)
  | 0, _, _, _, _ => none
  | k + 1, x0, x2, x3, x12 => if x12 = true then (if 0 ≤ x3 then (if x3 < (x0.length : Int) then (if 0 ≤ (wrap64 (7 * x3)) then (if (rd x0 x3) ≥ 128 then (bits_Unvarint.l0 k x0 (Go.bits .or .u64 x2 (shl .u64 (IntKind.u64.wrap (Go.bits .andNot .u8 (rd x0 x3) 128)) (wrap64 (7 * x3)))) (wrap64 (x3 + 1))) else (if (wrap64 (x3 + 1)) = 10 then (bits_Unvarint.j2 k (Go.bits .or .u64 x2 (shl .u64 (IntKind.u64.wrap (Go.bits .andNot .u8 (rd x0 x3) 128)) (wrap64 (7 * x3)))) (wrap64 (x3 + 1)) (rd x0 x3) (decide ((rd x0 x3) > 1))) else (bits_Unvarint.j2 k (Go.bits .or .u64 x2 (shl .u64 (IntKind.u64.wrap (Go.bits .andNot .u8 (rd x0 x3) 128)) (wrap64 (7 * x3)))) (wrap64 (x3 + 1)) (rd x0 x3) false))) else (none)) else (none)) else (none)) else (some (0, 0))
def bits_Unvarint.j2 : Nat → Int → Int → Int → Bool → Option (Int × Int)
  | 0, _, _, _, _ => none
  | k + 1, x2, x3, x4, x30 => if x30 = true then (some (0, 0)) else (if x3 > 1 then (if x4 = 0 then (some (0, 0)) else (some (x2, x3))) else (some (x2, x3)))
end
def bits_Unvarint.f (k : Nat) (l0 : List Int) : Option (Int × Int) := bits_Unvarint.l0 k l0 0 0
theorem bits_Unvarint.mono_l : ∀ k, (∀ y0 y1 y2, LeO (bits_Unvarint.l0 k y0 y1 y2) (bits_Unvarint.l0 (k + 1) y0 y1 y2)) ∧ (∀ y0 y1 y2 y3, LeO (bits_Unvarint.j1 k y0 y1 y2 y3) (bits_Unvarint.j1 (k + 1) y0 y1 y2 y3)) ∧ (∀ y0 y1 y2 y3, LeO (bits_Unvarint.j2 k y0 y1 y2 y3) (bits_Unvarint.j2 (k + 1) y0 y1 y2 y3))
  | 0 => ⟨fun _ _ _ r h => by simp [bits_Unvarint.l0] at h, fun _ _ _ _ r h => by simp [bits_Unvarint.j1] at h, fun _ _ _ _ r h => by simp [bits_Unvarint.j2] at h⟩
  | k + 1 => by
    obtain ⟨ih0, ih1, ih2⟩ := bits_Unvarint.mono_l k
    refine ⟨?_, ?_, ?_⟩
    · intro y0 y1 y2
      unfold bits_Unvarint.l0
      repeat' first
      | (with_reducible exact ih0 _ _ _)
      | (with_reducible exact ih1 _ _ _ _)
      | (with_reducible exact ih2 _ _ _ _)
      | (with_reducible exact LeO.refl _)
      | (with_reducible exact LeO.none _)
      | (with_reducible refine LeO.ite ?_ ?_)
      | (with_reducible refine LeO.bind ?_ (fun _ => ?_))
      | exact ih0 _ _ _
      | exact ih1 _ _ _ _
      | exact ih2 _ _ _ _
      | exact LeO.none _
      | refine LeO.ite ?_ ?_
      | refine LeO.bind ?_ (fun _ => ?_)
    · intro y0 y1 y2 y3
      unfold bits_Unvarint.j1
      repeat' first
      | (with_reducible exact ih0 _ _ _)
      | (with_reducible exact ih1 _ _ _ _)
      | (with_reducible exact ih2 _ _ _ _)
      | (with_reducible exact LeO.refl _)
      | (with_reducible exact LeO.none _)
      | (with_reducible refine LeO.ite ?_ ?_)
      | (with_reducible refine LeO.bind ?_ (fun _ => ?_))
      | exact ih0 _ _ _
      | exact ih1 _ _ _ _
      | exact ih2 _ _ _ _
      | exact LeO.none _
      | refine LeO.ite ?_ ?_
      | refine LeO.bind ?_ (fun _ => ?_)
    · intro y0 y1 y2 y3
      unfold bits_Unvarint.j2
      repeat' first
      | (with_reducible exact ih0 _ _ _)
      | (with_reducible exact ih1 _ _ _ _)
      | (with_reducible exact ih2 _ _ _ _)
      | (with_reducible exact LeO.refl _)
      | (with_reducible exact LeO.none _)
      | (with_reducible refine LeO.ite ?_ ?_)
      | (with_reducible refine LeO.bind ?_ (fun _ => ?_))
      | exact ih0 _ _ _
      | exact ih1 _ _ _ _
      | exact ih2 _ _ _ _
      | exact LeO.none _
      | refine LeO.ite ?_ ?_
      | refine LeO.bind ?_ (fun _ => ?_)
theorem bits_Unvarint.mono : ∀ a0 k, LeO (bits_Unvarint.f k a0) (bits_Unvarint.f (k + 1) a0) := by
  intro a0 k
  obtain ⟨ih0, ih1, ih2⟩ := bits_Unvarint.mono_l k
  unfold bits_Unvarint.f
  repeat' first
      | (with_reducible exact ih0 _ _ _)
      | (with_reducible exact ih1 _ _ _ _)
      | (with_reducible exact ih2 _ _ _ _)
      | (with_reducible exact LeO.refl _)
      | (with_reducible exact LeO.none _)
      | (with_reducible refine LeO.ite ?_ ?_)
      | (with_reducible refine LeO.bind ?_ (fun _ => ?_))
      | exact ih0 _ _ _
      | exact ih1 _ _ _ _
      | exact ih2 _ _ _ _
      | exact LeO.none _
      | refine LeO.ite ?_ ?_
      | refine LeO.bind ?_ (fun _ => ?_)
set_option maxHeartbeats 8000000 in
set_option maxRecDepth 100000 in
theorem bits_Unvarint.calls (k : Nat) (A0 : Option Addr) (c0 : Nat) (l0 : List Int) (r1 : Int) (r2 : Int) (w : World) (hr0 : Kd.C (Kd.int .u8) w A0 l0.length l0) (hc0 : l0.length ≤ c0) (h : bits_Unvarint.f k l0 = some (r1, r2)) :
    Calls Try.prog 12 #[.slice A0 l0.length c0] w fun e w' => e = .returned (.tuple #[.int .u64 r1, .int .i64 r2]) ∧ Drawn0 w w' := by
  have HR0 := Aside0.mk hr0
  have HC0 := Aside0.mk hc0
  clear hr0 hc0
  have H : (bits_Unvarint.l0 k l0 0 0) = some (r1, r2) := h
  clear h
  have H' := Aside0.mk H
  clear H
  go_enter Try.func12, Try.ntmps12
  go_wp2
  go_loopg [2, 3] k (fun kq v2 v3 w' => ∃ (x2_1 : Int) (x3_1 : Int), v2 = .int .u64 x2_1 ∧ v3 = .int .i64 x3_1 ∧ Aside0 (bits_Unvarint.l0 kq l0 x2_1 x3_1 = some (r1, r2)) ∧ Aside0 (kq ≤ k) ∧ Drawn0 w w')
  case atStart => exact ⟨(0), (0), (by first | rfl | (simp; done) | (simp [*]; done)), (by first | rfl | (simp; done) | (simp [*]; done)), H', ⟨Nat.le_refl _⟩, by repeat (first | exact Drawn0.refl _ | apply Drawn0.step)⟩
  case round =>
    clear H'
    try clear c1
    obtain ⟨x2_1, x3_1, rfl, rfl, HA, HK1, ⟨m1, rfl⟩⟩ := hrel
    cases gk with
    | zero => exact absurd HA.out (by simp [bits_Unvarint.l0])
    | succ k1 =>
      have H := HA.out
      clear HA
      simp only [bits_Unvarint.l0] at H
      have HC2 := Aside0.mk H
      clear H
      go_upto_region 1 with (fail)
      go_cut [12] (fun v12 wc => ∃ (kq : Nat) (x12_1 : Bool), v12 = .bool x12_1 ∧ Aside0 (bits_Unvarint.j1 kq l0 x2_1 x3_1 x12_1 = some (r1, r2)) ∧ Aside0 (kq ≤ k1) ∧ Drawn0 w wc)
      case first =>
        have H := HC2.out
        clear HC2
        by_cases c3 : x3_1 < 10
        · rw [if_pos c3] at H
          have c3b0 : decide (x3_1 < 10) = true := decide_eq_true c3
          clear c3
          (first | rw [c3b0] | (simp only [i64_w, i32_w]; rw [c3b0]) | skip)
          have H' := Aside0.mk H
          clear H
          go_wp2
          go_meet
          case rel => exact ⟨_, (decide (x3_1 < (l0.length : Int))), (by first | rfl | (simp; done) | (simp [*]; done)), H', ⟨by have := HK1.out; first | omega | exact Nat.le_refl _⟩, by repeat (first | exact Drawn0.refl _ | apply Drawn0.step)⟩
        · rw [if_neg c3] at H
          have c3b0 : decide (x3_1 < 10) = false := decide_eq_false c3
          clear c3
          (first | rw [c3b0] | (simp only [i64_w, i32_w]; rw [c3b0]) | skip)
          have H' := Aside0.mk H
          clear H
          go_wp2
          go_meet
          case rel => exact ⟨_, (false), (by first | rfl | (simp; done) | (simp [*]; done)), H', ⟨by have := HK1.out; first | omega | exact Nat.le_refl _⟩, by repeat (first | exact Drawn0.refl _ | apply Drawn0.step)⟩
      case rest =>
        clear HC2
        try clear c1
        try clear p2
        try clear c3
        try clear c3b0
        obtain ⟨kq, x12_1, rfl, HA, HJ1, ⟨mc1, rfl⟩⟩ := hcut
        cases kq with
        | zero => exact absurd HA.out (by simp [bits_Unvarint.j1])
        | succ kj1 =>
          have H := HA.out
          clear HA
          simp only [bits_Unvarint.j1] at H
          by_cases c4 : x12_1 = true
          · subst c4
            have H1 : (if 0 ≤ x3_1 then (if x3_1 < (l0.length : Int) then (if 0 ≤ (wrap64 (7 * x3_1)) then (if (rd l0 x3_1) ≥ 128 then (bits_Unvarint.l0 kj1 l0 (Go.bits .or .u64 x2_1 (shl .u64 (IntKind.u64.wrap (Go.bits .andNot .u8 (rd l0 x3_1) 128)) (wrap64 (7 * x3_1)))) (wrap64 (x3_1 + 1))) else (if (wrap64 (x3_1 + 1)) = 10 then (bits_Unvarint.j2 kj1 (Go.bits .or .u64 x2_1 (shl .u64 (IntKind.u64.wrap (Go.bits .andNot .u8 (rd l0 x3_1) 128)) (wrap64 (7 * x3_1)))) (wrap64 (x3_1 + 1)) (rd l0 x3_1) (decide ((rd l0 x3_1) > 1))) else (bits_Unvarint.j2 kj1 (Go.bits .or .u64 x2_1 (shl .u64 (IntKind.u64.wrap (Go.bits .andNot .u8 (rd l0 x3_1) 128)) (wrap64 (7 * x3_1)))) (wrap64 (x3_1 + 1)) (rd l0 x3_1) false))) else (none)) else (none)) else (none)) = some (r1, r2) := by rw [if_pos rfl] at H; exact H
            clear H
            have H := H1
            clear H1
            by_cases c5 : 0 ≤ x3_1
            · rw [if_pos c5] at H
              have c5b0 : decide (0 ≤ x3_1) = true := decide_eq_true c5
              clear c5
              by_cases c6 : x3_1 < (l0.length : Int)
              · rw [if_pos c6] at H
                have c6b0 : decide (x3_1 < (l0.length : Int)) = true := decide_eq_true c6
                clear c6
                obtain ⟨ji7, hji7⟩ : ∃ j_ : Int, (wrap64 (7 * x3_1)) = j_ := ⟨_, rfl⟩
                replace H : (if 0 ≤ (ji7) then (if (rd l0 x3_1) ≥ 128 then (bits_Unvarint.l0 kj1 l0 (Go.bits .or .u64 x2_1 (shl .u64 (IntKind.u64.wrap (Go.bits .andNot .u8 (rd l0 x3_1) 128)) (ji7))) (wrap64 (x3_1 + 1))) else (if (wrap64 (x3_1 + 1)) = 10 then (bits_Unvarint.j2 kj1 (Go.bits .or .u64 x2_1 (shl .u64 (IntKind.u64.wrap (Go.bits .andNot .u8 (rd l0 x3_1) 128)) (ji7))) (wrap64 (x3_1 + 1)) (rd l0 x3_1) (decide ((rd l0 x3_1) > 1))) else (bits_Unvarint.j2 kj1 (Go.bits .or .u64 x2_1 (shl .u64 (IntKind.u64.wrap (Go.bits .andNot .u8 (rd l0 x3_1) 128)) (ji7))) (wrap64 (x3_1 + 1)) (rd l0 x3_1) false))) else (none)) = some (r1, r2) := by first | (rw [hji7] at H; exact H) | (simp only [hji7] at H ⊢; exact H)
                have hji7w : (IntKind.i64.wrap (7 * x3_1)) = ji7 := (i64_w _).trans hji7
                by_cases c8 : 0 ≤ (ji7)
                · rw [if_pos c8] at H
                  have c8b0 := eq_true c8
                  have c8b1 : decide (0 ≤ (ji7)) = true := decide_eq_true c8
                  clear c8
                  obtain ⟨ji9, hji9⟩ : ∃ j_ : Int, (shl .u64 (IntKind.u64.wrap (Go.bits .andNot .u8 (rd l0 x3_1) 128)) (ji7)) = j_ := ⟨_, rfl⟩
                  replace H : (if (rd l0 x3_1) ≥ 128 then (bits_Unvarint.l0 kj1 l0 (Go.bits .or .u64 x2_1 (ji9)) (wrap64 (x3_1 + 1))) else (if (wrap64 (x3_1 + 1)) = 10 then (bits_Unvarint.j2 kj1 (Go.bits .or .u64 x2_1 (ji9)) (wrap64 (x3_1 + 1)) (rd l0 x3_1) (decide ((rd l0 x3_1) > 1))) else (bits_Unvarint.j2 kj1 (Go.bits .or .u64 x2_1 (ji9)) (wrap64 (x3_1 + 1)) (rd l0 x3_1) false))) = some (r1, r2) := by first | (rw [hji9] at H; exact H) | (simp only [hji9] at H ⊢; exact H)
                  have hji9_ : (IntKind.u64.wrap ((IntKind.u64.wrap (Go.bits .andNot .u8 (rd l0 x3_1) 128)) * 2 ^ min (ji7).toNat 64)) = ji9 := hji9
                  have hji9z : (ji7) ≤ 64 → (IntKind.u64.wrap ((IntKind.u64.wrap (Go.bits .andNot .u8 (rd l0 x3_1) 128)) * 2 ^ (ji7).toNat)) = ji9 := shl_small hji9
                  by_cases c10 : (rd l0 x3_1) ≥ 128
                  · rw [if_pos c10] at H
                    have c10b0 : decide (128 ≤ (rd l0 x3_1)) = true := decide_eq_true c10
                    clear c10
                    have H' := Aside0.mk H
                    clear H
                    have p127 : 0 ≤ (x3_1 : Int) := of_decide_eq_true (by first | (with_reducible assumption) | assumption)
                    have q127 : x3_1 < (l0.length : Int) := of_decide_eq_true (by first | (with_reducible assumption) | assumption)
                    obtain ⟨ad127, e127, hx127_0⟩ := Kd.at_int HR0.out x3_1 p127 q127
                    cases e127
                    replace p127 := eq_true p127
                    replace q127 := eq_true q127
                    go_wp2
                    go_roundg kj1
                    case measure => have := HK1.out; have := HJ1.out; omega
                    case rel => exact ⟨(Go.bits .or .u64 x2_1 (ji9)), (wrap64 (x3_1 + 1)), (by first | rfl | (simp; done) | (simp only [← hji9] <;> (first | rfl | simp)) | (simp [*]; done)), (by first | rfl | (simp; done) | (simp [*]; done)), H', ⟨by have := HK1.out; have := HJ1.out; omega⟩, by repeat (first | exact Drawn0.refl _ | apply Drawn0.step)⟩
                  · rw [if_neg c10] at H
                    have c10b0 : decide (128 ≤ (rd l0 x3_1)) = false := decide_eq_false c10
                    clear c10
                    have HC11 := Aside0.mk H
                    clear H
                    have p127 : 0 ≤ (x3_1 : Int) := of_decide_eq_true (by first | (with_reducible assumption) | assumption)
                    have q127 : x3_1 < (l0.length : Int) := of_decide_eq_true (by first | (with_reducible assumption) | assumption)
                    obtain ⟨ad127, e127, hx127_0⟩ := Kd.at_int HR0.out x3_1 p127 q127
                    cases e127
                    replace p127 := eq_true p127
                    replace q127 := eq_true q127
                    go_upto_region 6 with (fail)
                    go_cut [30] (fun v30 wc => ∃ (kq : Nat) (x30_10 : Bool), v30 = .bool x30_10 ∧ Aside0 (bits_Unvarint.j2 kq (Go.bits .or .u64 x2_1 (ji9)) (wrap64 (x3_1 + 1)) (rd l0 x3_1) x30_10 = some (r1, r2)) ∧ Aside0 (kq ≤ kj1) ∧ Drawn0 w wc)
                    case first =>
                      have H := HC11.out
                      clear HC11
                      by_cases c12 : (wrap64 (x3_1 + 1)) = 10
                      · rw [if_pos c12] at H
                        have c12b0 : ((wrap64 (x3_1 + 1)) == 10) = true := beq_iff_eq.mpr c12
                        have c12b1 : ((wrap64 (x3_1 + 1)) != 10) = false := bne_eq_false_iff_eq.mpr c12
                        clear c12
                        (first | rw [c12b0] | (simp only [i64_w, i32_w]; rw [c12b0]) | skip)
                        have H' := Aside0.mk H
                        clear H
                        go_wp2
                        go_meet
                        case rel => exact ⟨_, (decide ((rd l0 x3_1) > 1)), (by first | rfl | (simp; done) | (simp [*]; done)), H', ⟨by have := HK1.out; have := HJ1.out; first | omega | exact Nat.le_refl _⟩, by repeat (first | exact Drawn0.refl _ | apply Drawn0.step)⟩
                      · rw [if_neg c12] at H
                        have c12b0 : ((wrap64 (x3_1 + 1)) == 10) = false := beq_eq_false_iff_ne.mpr c12
                        have c12b1 : ((wrap64 (x3_1 + 1)) != 10) = true := bne_iff_ne.mpr c12
                        (first | rw [c12b0] | (simp only [i64_w, i32_w]; rw [c12b0]) | skip)
                        have H' := Aside0.mk H
                        clear H
                        go_wp2
                        go_meet
                        case rel => exact ⟨_, (false), (by first | rfl | (simp; done) | (simp [*]; done)), H', ⟨by have := HK1.out; have := HJ1.out; first | omega | exact Nat.le_refl _⟩, by repeat (first | exact Drawn0.refl _ | apply Drawn0.step)⟩
                    case rest =>
                      clear HC11
                      try clear c1
                      try clear p1
                      try clear q1
                      try clear hx1
                      try clear p2
                      try clear c3
                      try clear c3b0
                      try clear c4
                      try clear c5
                      try clear c5b0
                      try clear c6
                      try clear c6b0
                      try clear p6
                      try clear c8
                      try clear c8b0
                      try clear c8b1
                      try clear c10
                      try clear c10b0
                      try clear c12
                      try clear c12b0
                      try clear c12b1
                      try clear p12
                      try clear q12
                      try clear hx12
                      try clear hx127_0
                      try clear p127
                      try clear p2
                      try clear q127
                      obtain ⟨kq, x30_10, rfl, HA, HJ10, ⟨mc10, rfl⟩⟩ := hcut
                      cases kq with
                      | zero => exact absurd HA.out (by simp [bits_Unvarint.j2])
                      | succ kj10 =>
                        have H := HA.out
                        clear HA
                        simp only [bits_Unvarint.j2] at H
                        by_cases c13 : x30_10 = true
                        · subst c13
                          have H1 : (some (0, 0)) = some (r1, r2) := by rw [if_pos rfl] at H; exact H
                          clear H
                          have H := H1
                          clear H1
                          simp only [Option.some.injEq, Prod.mk.injEq] at H
                          obtain ⟨rfl, rfl⟩ := H
                          go_wp2
                          go_ret2
                          exact ⟨by first | rfl | (simp; done) | (simp only [← hji7, ← hji9] <;> (first | rfl | simp)) | (simp [*]; done), by repeat (first | exact Drawn0.refl _ | apply Drawn0.step)⟩
                        · replace c13 := Bool.eq_false_iff.mpr c13
                          subst c13
                          have H1 : (if (wrap64 (x3_1 + 1)) > 1 then (if (rd l0 x3_1) = 0 then (some (0, 0)) else (some ((Go.bits .or .u64 x2_1 (ji9)), (wrap64 (x3_1 + 1))))) else (some ((Go.bits .or .u64 x2_1 (ji9)), (wrap64 (x3_1 + 1))))) = some (r1, r2) := by rw [if_neg (show ¬ (false = true) by decide)] at H; exact H
                          clear H
                          have H := H1
                          clear H1
                          by_cases c14 : (wrap64 (x3_1 + 1)) > 1
                          · rw [if_pos c14] at H
                            have c14b0 : decide (1 < (wrap64 (x3_1 + 1))) = true := decide_eq_true c14
                            clear c14
                            by_cases c15 : (rd l0 x3_1) = 0
                            · rw [if_pos c15] at H
                              have c15b0 : ((rd l0 x3_1) == 0) = true := beq_iff_eq.mpr c15
                              have c15b1 : ((rd l0 x3_1) != 0) = false := bne_eq_false_iff_eq.mpr c15
                              clear c15
                              simp only [Option.some.injEq, Prod.mk.injEq] at H
                              obtain ⟨rfl, rfl⟩ := H
                              go_wp2
                              go_ret2
                              exact ⟨by first | rfl | (simp; done) | (simp only [← hji7, ← hji9] <;> (first | rfl | simp)) | (simp [*]; done), by repeat (first | exact Drawn0.refl _ | apply Drawn0.step)⟩
                            · rw [if_neg c15] at H
                              have c15b0 : ((rd l0 x3_1) == 0) = false := beq_eq_false_iff_ne.mpr c15
                              have c15b1 : ((rd l0 x3_1) != 0) = true := bne_iff_ne.mpr c15
                              simp only [Option.some.injEq, Prod.mk.injEq] at H
                              obtain ⟨rfl, rfl⟩ := H
                              go_wp2
                              go_ret2
                              exact ⟨by first | rfl | (simp; done) | (simp only [← hji7, ← hji9] <;> (first | rfl | simp)) | (simp [*]; done), by repeat (first | exact Drawn0.refl _ | apply Drawn0.step)⟩
                          · rw [if_neg c14] at H
                            have c14b0 : decide (1 < (wrap64 (x3_1 + 1))) = false := decide_eq_false c14
                            clear c14
                            simp only [Option.some.injEq, Prod.mk.injEq] at H
                            obtain ⟨rfl, rfl⟩ := H
                            go_wp2
                            go_ret2
                            exact ⟨by first | rfl | (simp; done) | (simp only [← hji7, ← hji9] <;> (first | rfl | simp)) | (simp [*]; done), by repeat (first | exact Drawn0.refl _ | apply Drawn0.step)⟩
                · rw [if_neg c8] at H
                  exact absurd H (by simp)
              · rw [if_neg c6] at H
                exact absurd H (by simp)
            · rw [if_neg c5] at H
              exact absurd H (by simp)
          · replace c4 := Bool.eq_false_iff.mpr c4
            subst c4
            have H1 : (some (0, 0)) = some (r1, r2) := by rw [if_neg (show ¬ (false = true) by decide)] at H; exact H
            clear H
            have H := H1
            clear H1
            simp only [Option.some.injEq, Prod.mk.injEq] at H
            obtain ⟨rfl, rfl⟩ := H
            go_wp2
            go_ret2
            exact ⟨by first | rfl | (simp; done) | (simp [*]; done), by repeat (first | exact Drawn0.refl _ | apply Drawn0.step)⟩

/-! ### dolmenlaw1_BitsOrder: function 4 -/
def dolmenlaw1_BitsOrder.j0 : Nat → List Int → Bool → Option (Bool)
  | 0, _, _ => none
  | k + 1, x5, x39 => if x39 = true then (some false) else ((some (([] : List Int) : List Int)).bind fun y134 => (if y134.length + x5.length < 140737488355328 then ((some (y134 ++ x5 : List Int)).bind fun y137 => (if 0 ≤ (wrap64 ((y137.length : Int) - 1)) then (if (wrap64 ((y137.length : Int) - 1)) < (y137.length : Int) then ((some (y137.set ((wrap64 ((y137.length : Int) - 1)) : Int).toNat (Go.bits .or .u8 (rd y137 (wrap64 ((y137.length : Int) - 1))) 128) : List Int)).bind fun y141 => (if y141.length < 140737488355328 then ((bits_Unvarint.f k (y141 ++ [0])).bind fun bt145 => (if bt145.2 = 0 then ((dolmenlaw1_awake.f k).bind fun t147 => (some t147)) else (some false))) else (none))) else (none)) else (none))) else (none)))
def dolmenlaw1_BitsOrder.f (k : Nat) (a0 : Int) (a1 : Int) : Option (Bool) := (bits_Varint.f k a0).bind fun t128 => ((bits_Varint.f k a1).bind fun t131 => (if (((strOfNums t128).toList == (strOfNums t131).toList) != (a0 == a1)) = true then (dolmenlaw1_BitsOrder.j0 k t128 true) else (if a0 ≤ a1 then (if (t128.length : Int) > (t131.length : Int) then (dolmenlaw1_BitsOrder.j0 k t128 true) else (dolmenlaw1_BitsOrder.j0 k t128 ((t128.length : Int) == 0))) else (dolmenlaw1_BitsOrder.j0 k t128 ((t128.length : Int) == 0)))))
theorem dolmenlaw1_BitsOrder.mono_l : ∀ k, (∀ y0 y1, LeO (dolmenlaw1_BitsOrder.j0 k y0 y1) (dolmenlaw1_BitsOrder.j0 (k + 1) y0 y1))
  | 0 => fun _ _ r h => by simp [dolmenlaw1_BitsOrder.j0] at h
  | k + 1 => by
    have ih0 := dolmenlaw1_BitsOrder.mono_l k
    · intro y0 y1
      unfold dolmenlaw1_BitsOrder.j0
      repeat' first
      | (with_reducible exact ih0 _ _)
      | (with_reducible exact bits_Unvarint.mono _ _)
      | (with_reducible exact bits_Varint.mono _ _)
      | (with_reducible exact dolmenlaw1_awake.mono _)
      | (with_reducible exact LeO.refl _)
      | (with_reducible exact LeO.none _)
      | (with_reducible refine LeO.ite ?_ ?_)
      | (with_reducible refine LeO.bind ?_ (fun _ => ?_))
      | exact ih0 _ _
      | exact bits_Unvarint.mono _ _
      | exact bits_Varint.mono _ _
      | exact dolmenlaw1_awake.mono _
      | exact LeO.none _
      | refine LeO.ite ?_ ?_
      | refine LeO.bind ?_ (fun _ => ?_)
theorem dolmenlaw1_BitsOrder.mono : ∀ a0 a1 k, LeO (dolmenlaw1_BitsOrder.f k a0 a1) (dolmenlaw1_BitsOrder.f (k + 1) a0 a1) := by
  intro a0 a1 k
  have ih0 := dolmenlaw1_BitsOrder.mono_l k
  unfold dolmenlaw1_BitsOrder.f
  repeat' first
      | (with_reducible exact ih0 _ _)
      | (with_reducible exact bits_Unvarint.mono _ _)
      | (with_reducible exact bits_Varint.mono _ _)
      | (with_reducible exact dolmenlaw1_awake.mono _)
      | (with_reducible exact LeO.refl _)
      | (with_reducible exact LeO.none _)
      | (with_reducible refine LeO.ite ?_ ?_)
      | (with_reducible refine LeO.bind ?_ (fun _ => ?_))
      | exact ih0 _ _
      | exact bits_Unvarint.mono _ _
      | exact bits_Varint.mono _ _
      | exact dolmenlaw1_awake.mono _
      | exact LeO.none _
      | refine LeO.ite ?_ ?_
      | refine LeO.bind ?_ (fun _ => ?_)
set_option maxHeartbeats 8000000 in
set_option maxRecDepth 100000 in
theorem dolmenlaw1_BitsOrder.calls (k : Nat) (a0 : Int) (a1 : Int) (r : Bool) (w : World) (h : dolmenlaw1_BitsOrder.f k a0 a1 = some r) :
    Calls Try.prog 4 #[.int .u64 a0, .int .u64 a1] w fun e w' => e = .returned (.bool r) ∧ Below w.heap.size w w' := by
  have HB := Aside0.mk (Below.refl w.heap.size w)
  have H : ((bits_Varint.f k a0).bind fun t128 => ((bits_Varint.f k a1).bind fun t131 => (if (((strOfNums t128).toList == (strOfNums t131).toList) != (a0 == a1)) = true then (dolmenlaw1_BitsOrder.j0 k t128 true) else (if a0 ≤ a1 then (if (t128.length : Int) > (t131.length : Int) then (dolmenlaw1_BitsOrder.j0 k t128 true) else (dolmenlaw1_BitsOrder.j0 k t128 ((t128.length : Int) == 0))) else (dolmenlaw1_BitsOrder.j0 k t128 ((t128.length : Int) == 0)))))) = some r := h
  clear h
  replace H := Option.bind_eq_some_iff.mp H
  obtain ⟨t128, A30, H⟩ := H
  replace H : ((bits_Varint.f k a1).bind fun t131 => (if (((strOfNums t128).toList == (strOfNums t131).toList) != (a0 == a1)) = true then (dolmenlaw1_BitsOrder.j0 k t128 true) else (if a0 ≤ a1 then (if (t128.length : Int) > (t131.length : Int) then (dolmenlaw1_BitsOrder.j0 k t128 true) else (dolmenlaw1_BitsOrder.j0 k t128 ((t128.length : Int) == 0))) else (dolmenlaw1_BitsOrder.j0 k t128 ((t128.length : Int) == 0))))) = some r := H
  have A3 := Aside0.mk A30
  clear A30
  replace H := Option.bind_eq_some_iff.mp H
  obtain ⟨t131, A40, H⟩ := H
  replace H : (if (((strOfNums t128).toList == (strOfNums t131).toList) != (a0 == a1)) = true then (dolmenlaw1_BitsOrder.j0 k t128 true) else (if a0 ≤ a1 then (if (t128.length : Int) > (t131.length : Int) then (dolmenlaw1_BitsOrder.j0 k t128 true) else (dolmenlaw1_BitsOrder.j0 k t128 ((t128.length : Int) == 0))) else (dolmenlaw1_BitsOrder.j0 k t128 ((t128.length : Int) == 0)))) = some r := H
  have A4 := Aside0.mk A40
  clear A40
  have HC5 := Aside0.mk H
  clear H
  go_enter Try.func4, Try.ntmps4
  go_upto_region 3 with (first | ((with_reducible refine gate_callee (f := 11) rfl ?_); refine goesL_ (some 11) rfl rfl Try.func11 (by kernel_rfl) rfl #[.int .u64 a0] rfl (by (try simp only [List.map_toArray, List.map_cons, List.map_nil]); first | done | rfl | (simp only [List.length_drop, List.length_take]; rfl)) ?_; (with_reducible refine (bits_Varint.calls k a0 t128 _ A3.out).mono ?_); rintro e w6 ⟨v129, rfl, ho0, hb⟩; refine ⟨_, rfl, ?_⟩; have n0_ := Aside0.mk (Kd.R_lower ho0 (below_size (by repeat (first | (with_reducible first | exact HB.out | apply below_alloc | apply pw_below_drewN | apply below_drew1) | exact HB.out)))); have n1_ := Aside0.mk (below_step (by repeat (first | (with_reducible first | exact HB.out | apply below_alloc | apply pw_below_drewN | apply below_drew1) | exact HB.out)) hb); clear HB; have HO130 := n0_; have HB := n1_; clear n0_ n1_; (try clear hb); (try clear hb2); (try clear hk); (try clear hi); (try clear ho0)) | ((with_reducible refine gate_callee (f := 11) rfl ?_); refine goesL_ (some 13) rfl rfl Try.func11 (by kernel_rfl) rfl #[.int .u64 a1] rfl (by (try simp only [List.map_toArray, List.map_cons, List.map_nil]); first | done | rfl | (simp only [List.length_drop, List.length_take]; rfl)) ?_; (with_reducible refine (bits_Varint.calls k a1 t131 _ A4.out).mono ?_); rintro e w7 ⟨v132, rfl, ho0, hb⟩; refine ⟨_, rfl, ?_⟩; have n0_ := Aside0.mk (Kd.R_elder' (by (with_reducible repeat (first | apply Kd.R_alloc | apply Kd.R_drewN | apply Kd.R_drew)); exact HO130.out) (Kd.R_base ho0) hb); have n1_ := Aside0.mk (Kd.R_lower (Kd.R_new' ho0 (Kd.R_lt (by (with_reducible repeat (first | apply Kd.R_alloc | apply Kd.R_drewN | apply Kd.R_drew)); exact HO130.out))) (below_size (by repeat (first | (with_reducible first | exact HB.out | apply below_alloc | apply pw_below_drewN | apply below_drew1) | exact HB.out)))); have n2_ := Aside0.mk (below_step (by repeat (first | (with_reducible first | exact HB.out | apply below_alloc | apply pw_below_drewN | apply below_drew1) | exact HB.out)) hb); clear HO130; clear HB; have HO130 := n0_; have HO133 := n1_; have HB := n2_; clear n0_ n1_ n2_; (try clear hb); (try clear hb2); (try clear hk); (try clear hi); (try clear ho0)))
  (try simp only [Act.put, List.setIfInBounds_toArray, List.set_cons_zero, List.set_cons_succ])
  go_cut [39] (fun v39 wc => ∃ (kq : Nat) (x39_4 : Bool), v39 = .bool x39_4 ∧ Aside0 (dolmenlaw1_BitsOrder.j0 kq t128 x39_4 = some r) ∧ Aside0 (kq ≤ k) ∧ Aside0 (Kd.R (Kd.int .u8) 5 wc w.heap.size (fun _ => True) v129 t128) ∧ Aside0 (Below w.heap.size w wc))
  case first =>
    have H := HC5.out
    clear HC5
    by_cases c8 : (((strOfNums t128).toList == (strOfNums t131).toList) != (a0 == a1)) = true
    · rw [if_pos c8] at H
      have c8b0 : (((strOfNums t128).toList == (strOfNums t131).toList) != (a0 == a1)) = true := c8
      (try (have c8b1 : decide (((strOfNums t128).toList == (strOfNums t131).toList) = (a0 == a1)) = false := by simpa using c8))
      (try (have c8b2 : (((strOfNums t128).toList == (strOfNums t131).toList) == (a0 == a1)) = false := by simpa using c8))
      (try (have c8b3 : ¬ (((strOfNums t128).toList == (strOfNums t131).toList) = (a0 == a1)) := by simpa using c8))
      clear c8
      (first | rw [c8b0] | (simp only [i64_w, i32_w]; rw [c8b0]) | skip)
      have H' := Aside0.mk H
      clear H
      have hcv9 := own_string (P := Try.prog) Try.underlying27 Try.underlying5 Try.underlying9 (Kd.own_of_R HO130.out)
      have hcv10 := own_string (P := Try.prog) Try.underlying27 Try.underlying5 Try.underlying9 (Kd.own_of_R HO133.out)
      go_wp2
      go_meet
      case rel => exact ⟨_, (true), (by first | rfl | (simp; done) | (simp [*]; done)), H', ⟨by first | omega | exact Nat.le_refl _⟩, ⟨by (with_reducible repeat (first | apply Kd.R_alloc | apply Kd.R_drewN | apply Kd.R_drew)); exact Kd.R_mono HO130.out (fun _ hk => trivial)⟩, ⟨by repeat (first | (with_reducible first | exact HB.out | apply below_alloc | apply pw_below_drewN | apply below_drew1) | exact HB.out)⟩⟩
    · rw [if_neg c8] at H
      have c8b0 : (((strOfNums t128).toList == (strOfNums t131).toList) != (a0 == a1)) = false := by simpa using c8
      (try (have c8b1 : decide (((strOfNums t128).toList == (strOfNums t131).toList) = (a0 == a1)) = true := by simpa using c8))
      (try (have c8b2 : (((strOfNums t128).toList == (strOfNums t131).toList) == (a0 == a1)) = true := by simpa using c8))
      clear c8
      (first | rw [c8b0] | (simp only [i64_w, i32_w]; rw [c8b0]) | skip)
      by_cases c11 : a0 ≤ a1
      · rw [if_pos c11] at H
        have c11b0 : decide (a0 ≤ a1) = true := decide_eq_true c11
        clear c11
        by_cases c12 : (t128.length : Int) > (t131.length : Int)
        · rw [if_pos c12] at H
          have c12b0 : decide ((t131.length : Int) < (t128.length : Int)) = true := decide_eq_true c12
          have c12b1 : decide (t131.length < t128.length) = true := decide_eq_true (Int.ofNat_lt.mp c12)
          clear c12
          have H' := Aside0.mk H
          clear H
          have hcv13 := own_string (P := Try.prog) Try.underlying27 Try.underlying5 Try.underlying9 (Kd.own_of_R HO130.out)
          have hcv14 := own_string (P := Try.prog) Try.underlying27 Try.underlying5 Try.underlying9 (Kd.own_of_R HO133.out)
          obtain ⟨Ao15, co15, eo15⟩ := Kd.R_slice HO130.out
          subst eo15
          obtain ⟨Ao16, co16, eo16⟩ := Kd.R_slice HO133.out
          subst eo16
          go_wp2
          go_meet
          case rel => exact ⟨_, (true), (by first | rfl | (simp; done) | (simp [*]; done)), H', ⟨by first | omega | exact Nat.le_refl _⟩, ⟨by (with_reducible repeat (first | apply Kd.R_alloc | apply Kd.R_drewN | apply Kd.R_drew)); exact Kd.R_mono HO130.out (fun _ hk => trivial)⟩, ⟨by repeat (first | (with_reducible first | exact HB.out | apply below_alloc | apply pw_below_drewN | apply below_drew1) | exact HB.out)⟩⟩
        · rw [if_neg c12] at H
          have c12b0 : decide ((t131.length : Int) < (t128.length : Int)) = false := decide_eq_false c12
          have c12b1 : decide (t131.length < t128.length) = false := decide_eq_false (fun h => c12 (Int.ofNat_lt.mpr h))
          clear c12
          have H' := Aside0.mk H
          clear H
          have hcv17 := own_string (P := Try.prog) Try.underlying27 Try.underlying5 Try.underlying9 (Kd.own_of_R HO130.out)
          have hcv18 := own_string (P := Try.prog) Try.underlying27 Try.underlying5 Try.underlying9 (Kd.own_of_R HO133.out)
          obtain ⟨Ao19, co19, eo19⟩ := Kd.R_slice HO130.out
          subst eo19
          obtain ⟨Ao20, co20, eo20⟩ := Kd.R_slice HO133.out
          subst eo20
          go_wp2
          go_meet
          case rel => exact ⟨_, (((t128.length : Int) == 0)), (by first | rfl | (simp; done) | (simp [*]; done)), H', ⟨by first | omega | exact Nat.le_refl _⟩, ⟨by (with_reducible repeat (first | apply Kd.R_alloc | apply Kd.R_drewN | apply Kd.R_drew)); exact Kd.R_mono HO130.out (fun _ hk => trivial)⟩, ⟨by repeat (first | (with_reducible first | exact HB.out | apply below_alloc | apply pw_below_drewN | apply below_drew1) | exact HB.out)⟩⟩
      · rw [if_neg c11] at H
        have c11b0 : decide (a0 ≤ a1) = false := decide_eq_false c11
        clear c11
        have H' := Aside0.mk H
        clear H
        have hcv21 := own_string (P := Try.prog) Try.underlying27 Try.underlying5 Try.underlying9 (Kd.own_of_R HO130.out)
        have hcv22 := own_string (P := Try.prog) Try.underlying27 Try.underlying5 Try.underlying9 (Kd.own_of_R HO133.out)
        obtain ⟨Ao23, co23, eo23⟩ := Kd.R_slice HO130.out
        subst eo23
        go_wp2
        go_meet
        case rel => exact ⟨_, (((t128.length : Int) == 0)), (by first | rfl | (simp; done) | (simp [*]; done)), H', ⟨by first | omega | exact Nat.le_refl _⟩, ⟨by (with_reducible repeat (first | apply Kd.R_alloc | apply Kd.R_drewN | apply Kd.R_drew)); exact Kd.R_mono HO130.out (fun _ hk => trivial)⟩, ⟨by repeat (first | (with_reducible first | exact HB.out | apply below_alloc | apply pw_below_drewN | apply below_drew1) | exact HB.out)⟩⟩
  case rest =>
    clear HC5
    try clear c1
    try clear hcv1
    try clear p2
    try clear hcv2
    try clear c4
    try clear c8
    try clear c8b0
    try clear c8b1
    try clear c8b2
    try clear hcv9
    try clear hcv10
    try clear c11
    try clear c11b0
    try clear c12
    try clear c12b0
    try clear c12b1
    try clear hcv13
    try clear hcv14
    try clear hcv17
    try clear hcv18
    try clear hcv21
    try clear hcv22
    obtain ⟨kq, x39_4, rfl, HA, HJ4, HO_5, HB⟩ := hcut
    cases kq with
    | zero => exact absurd HA.out (by simp [dolmenlaw1_BitsOrder.j0])
    | succ kj4 =>
      have H := HA.out
      clear HA
      simp only [dolmenlaw1_BitsOrder.j0] at H
      by_cases c24 : x39_4 = true
      · subst c24
        have H1 : (some false) = some r := by rw [if_pos rfl] at H; exact H
        clear H
        have H := H1
        clear H1
        obtain rfl := Option.some.inj H
        go_wp2
        go_ret
        exact ⟨by first | rfl | (simp [errW_none, errW_some] <;> rfl) | (simp [*, errW_none, errW_some] <;> rfl), by repeat (first | (with_reducible first | exact HB.out | apply below_alloc | apply pw_below_drewN | apply below_drew1) | exact HB.out)⟩
      · replace c24 := Bool.eq_false_iff.mpr c24
        subst c24
        have H1 : ((some (([] : List Int) : List Int)).bind fun y134 => (if y134.length + t128.length < 140737488355328 then ((some (y134 ++ t128 : List Int)).bind fun y137 => (if 0 ≤ (wrap64 ((y137.length : Int) - 1)) then (if (wrap64 ((y137.length : Int) - 1)) < (y137.length : Int) then ((some (y137.set ((wrap64 ((y137.length : Int) - 1)) : Int).toNat (Go.bits .or .u8 (rd y137 (wrap64 ((y137.length : Int) - 1))) 128) : List Int)).bind fun y141 => (if y141.length < 140737488355328 then ((bits_Unvarint.f kj4 (y141 ++ [0])).bind fun bt145 => (if bt145.2 = 0 then ((dolmenlaw1_awake.f kj4).bind fun t147 => (some t147)) else (some false))) else (none))) else (none)) else (none))) else (none))) = some r := by rw [if_neg (show ¬ (false = true) by decide)] at H; exact H
        clear H
        have H := H1
        clear H1
        obtain ⟨y134, hy134⟩ : ∃ y_ : List Int, y_ = (([] : List Int)) := ⟨_, rfl⟩
        replace H : (if y134.length + t128.length < 140737488355328 then ((some (y134 ++ t128 : List Int)).bind fun y137 => (if 0 ≤ (wrap64 ((y137.length : Int) - 1)) then (if (wrap64 ((y137.length : Int) - 1)) < (y137.length : Int) then ((some (y137.set ((wrap64 ((y137.length : Int) - 1)) : Int).toNat (Go.bits .or .u8 (rd y137 (wrap64 ((y137.length : Int) - 1))) 128) : List Int)).bind fun y141 => (if y141.length < 140737488355328 then ((bits_Unvarint.f kj4 (y141 ++ [0])).bind fun bt145 => (if bt145.2 = 0 then ((dolmenlaw1_awake.f kj4).bind fun t147 => (some t147)) else (some false))) else (none))) else (none)) else (none))) else (none)) = some r := by first | (rw [hy134]; with_reducible exact H) | (have H2_ := (Option.bind_some _ _).symm.trans H; rw [hy134]; with_reducible exact H2_) | (have H2_ := (Option.bind_some _ _).symm.trans H; with_reducible exact H2_) | with_reducible exact H | (rw [hy134]; exact H) | exact H
        have Ny134 := Aside0.mk hy134
        clear hy134
        by_cases c25 : y134.length + t128.length < 140737488355328
        · rw [if_pos c25] at H
          have LMc25 := Aside0.mk c25
          clear c25
          obtain ⟨y137, hy137⟩ : ∃ y_ : List Int, y_ = (y134 ++ t128) := ⟨_, rfl⟩
          replace H : (if 0 ≤ (wrap64 ((y137.length : Int) - 1)) then (if (wrap64 ((y137.length : Int) - 1)) < (y137.length : Int) then ((some (y137.set ((wrap64 ((y137.length : Int) - 1)) : Int).toNat (Go.bits .or .u8 (rd y137 (wrap64 ((y137.length : Int) - 1))) 128) : List Int)).bind fun y141 => (if y141.length < 140737488355328 then ((bits_Unvarint.f kj4 (y141 ++ [0])).bind fun bt145 => (if bt145.2 = 0 then ((dolmenlaw1_awake.f kj4).bind fun t147 => (some t147)) else (some false))) else (none))) else (none)) else (none)) = some r := by first | (rw [hy137]; with_reducible exact H) | (have H2_ := (Option.bind_some _ _).symm.trans H; rw [hy137]; with_reducible exact H2_) | (have H2_ := (Option.bind_some _ _).symm.trans H; with_reducible exact H2_) | with_reducible exact H | (rw [hy137]; exact H) | exact H
          have Ny137 := Aside0.mk hy137
          clear hy137
          obtain ⟨ji26, hji26⟩ : ∃ j_ : Int, (wrap64 ((y137.length : Int) - 1)) = j_ := ⟨_, rfl⟩
          replace H : (if 0 ≤ (ji26) then (if (ji26) < (y137.length : Int) then ((some (y137.set ((ji26) : Int).toNat (Go.bits .or .u8 (rd y137 (ji26)) 128) : List Int)).bind fun y141 => (if y141.length < 140737488355328 then ((bits_Unvarint.f kj4 (y141 ++ [0])).bind fun bt145 => (if bt145.2 = 0 then ((dolmenlaw1_awake.f kj4).bind fun t147 => (some t147)) else (some false))) else (none))) else (none)) else (none)) = some r := by first | (rw [hji26] at H; exact H) | (simp only [hji26] at H ⊢; exact H)
          have hji26w : (IntKind.i64.wrap ((y137.length : Int) - 1)) = ji26 := (i64_w _).trans hji26
          by_cases c27 : 0 ≤ (ji26)
          · rw [if_pos c27] at H
            have c27b0 : decide (0 ≤ (ji26)) = true := decide_eq_true c27
            clear c27
            by_cases c28 : (ji26) < (y137.length : Int)
            · rw [if_pos c28] at H
              have c28b0 : decide ((ji26) < (y137.length : Int)) = true := decide_eq_true c28
              clear c28
              obtain ⟨y141, hy141⟩ : ∃ y_ : List Int, y_ = (y137.set ((ji26) : Int).toNat (Go.bits .or .u8 (rd y137 (ji26)) 128)) := ⟨_, rfl⟩
              replace H : (if y141.length < 140737488355328 then ((bits_Unvarint.f kj4 (y141 ++ [0])).bind fun bt145 => (if bt145.2 = 0 then ((dolmenlaw1_awake.f kj4).bind fun t147 => (some t147)) else (some false))) else (none)) = some r := by first | (rw [hy141]; with_reducible exact H) | (have H2_ := (Option.bind_some _ _).symm.trans H; rw [hy141]; with_reducible exact H2_) | (have H2_ := (Option.bind_some _ _).symm.trans H; with_reducible exact H2_) | with_reducible exact H | (rw [hy141]; exact H) | exact H
              have Ny141 := Aside0.mk hy141
              clear hy141
              by_cases c30 : y141.length < 140737488355328
              · rw [if_pos c30] at H
                have LMc30 := Aside0.mk c30
                clear c30
                obtain ⟨y142, hy142⟩ : ∃ y_ : List Int, y_ = (y141 ++ [0]) := ⟨_, rfl⟩
                replace H : ((bits_Unvarint.f kj4 y142).bind fun bt145 => (if bt145.2 = 0 then ((dolmenlaw1_awake.f kj4).bind fun t147 => (some t147)) else (some false))) = some r := by first | (rw [hy142]; with_reducible exact H) | (have H2_ := (Option.bind_some _ _).symm.trans H; rw [hy142]; with_reducible exact H2_) | (have H2_ := (Option.bind_some _ _).symm.trans H; with_reducible exact H2_) | with_reducible exact H | (rw [hy142]; exact H) | exact H
                have Ny142 := Aside0.mk hy142
                clear hy142
                replace H := Option.bind_eq_some_iff.mp H
                obtain ⟨⟨t145, t146⟩, A310, H⟩ := H
                replace H : (if t146 = 0 then ((dolmenlaw1_awake.f kj4).bind fun t147 => (some t147)) else (some false)) = some r := H
                have A31 := Aside0.mk A310
                clear A310
                by_cases c32 : t146 = 0
                · rw [if_pos c32] at H
                  have c32b0 : (t146 == 0) = true := beq_iff_eq.mpr c32
                  have c32b1 : (t146 != 0) = false := bne_eq_false_iff_eq.mpr c32
                  clear c32
                  replace H := Option.bind_eq_some_iff.mp H
                  obtain ⟨t147, A330, H⟩ := H
                  replace H : (some t147) = some r := H
                  have A33 := Aside0.mk A330
                  clear A330
                  obtain rfl := Option.some.inj H
                  go_wp2_with (first | ((with_reducible refine gate_dst (N := 40) rfl ?_); (try (refine gate_guard (by rfl) ?_; dsimp only)); refine Kd.R_lit (Kd.int .u8) _ 5 ?hg (N := 40) ?hd (xs := ([] : List Int)) (inner := []) (ok := fun _ => True) (okp := fun _ => True) ?hr ?hp (fun _ hk => hk) trivial (Below.refl _ _) (Nat.le_refl _) (by simp) ?_; (case hd => rfl); (case hg => rfl); (case hr => first | (go_simp; done) | (go_simp; rfl)); (case hp => exact (Reps.none _ _)); intro v135 w34 ho35 hb hg_ hnew_; clear hg_ hnew_; (first | rw [← Ny134.out] at ho35 | (simp only [Int.reduceToNat] at ho35; rw [← Ny134.out] at ho35)); have n0_ := Aside0.mk (Kd.R_elder' (by (with_reducible repeat (first | apply Kd.R_alloc | apply Kd.R_drewN | apply Kd.R_drew)); exact HO_5.out) (Kd.R_base ho35) hb); have n1_ := Aside0.mk (Kd.R_lower (Kd.R_new' ho35 (Kd.R_lt (by (with_reducible repeat (first | apply Kd.R_alloc | apply Kd.R_drewN | apply Kd.R_drew)); exact HO_5.out))) (below_size (by repeat (first | (with_reducible first | exact HB.out | apply below_alloc | apply pw_below_drewN | apply below_drew1) | exact HB.out)))); have n2_ := Aside0.mk (below_step (by repeat (first | (with_reducible first | exact HB.out | apply below_alloc | apply pw_below_drewN | apply below_drew1) | exact HB.out)) hb); clear HO_5; clear HB; have HO_5 := n0_; have HO136 := n1_; have HB := n2_; clear n0_ n1_ n2_; clear hb ho35; obtain ⟨Ao37, co37, eo37⟩ := Kd.R_slice HO_5.out; subst eo37) | ((with_reducible refine gate_builtin (b := .append) (xs := #[.tmp 40, .tmp 41]) rfl ?_); (try (refine gate_guard (by rfl) ?_; dsimp only)); at_builtin; refine Kd.R_append_rows (Kd.int .u8) (w0 := w) w.heap.size rfl (.tmp 40) (.tmp 41) 27 5 (.int .u8 0) 1 rfl Try.underlying27 info5 rfl (by decide) (by omega) v135 y134 t128 _ _ _ (fun k_ => some k_ ≠ (.slice Ao37 t128.length co37 : Value).ownBlock) (fun _ => False) rfl rfl ?aO ?aR (fun _ _ h => h) (fun _ h => h.elim) ?aF ?aB ?aS ?aL ?_; (case aR => repeat (first | exact (Kd.R_reads' HO_5.out).2.2 | (with_reducible refine Kd.C_alloc ?_ _) | (with_reducible refine Kd.C_drewN ?_ _) | (with_reducible refine Kd.C_drew ?_))); (case aB => exact (by repeat (first | (with_reducible first | exact HB.out | apply below_alloc | apply pw_below_drewN | apply below_drew1) | exact HB.out))); (case aF => exact (fun k_ hk => Kd.fresh' (Kd.R_lt (by (with_reducible repeat (first | apply Kd.R_alloc | apply Kd.R_drewN | apply Kd.R_drew)); exact HO_5.out)) k_ hk)); (case aO => exact (by (with_reducible repeat (first | apply Kd.R_alloc | apply Kd.R_drewN | apply Kd.R_drew)); exact Kd.R_mono HO136.out (fun _ hk => hk.2))); (case aS => exact (below_size (by repeat (first | (with_reducible first | exact HB.out | apply below_alloc | apply pw_below_drewN | apply below_drew1) | exact HB.out)))); (case aL => have := LMc25.out; omega); intro v138 w36 ho hb hg hat; rw [← Ny137.out] at ho; have n0_ := Aside0.mk (Kd.R_after (ok := (fun _ => True)) (by (with_reducible repeat (first | apply Kd.R_alloc | apply Kd.R_drewN | apply Kd.R_drew)); exact HO_5.out) hg hat); have n1_ := Aside0.mk (hb); have n2_ := Aside0.mk (ho); clear HO_5; clear HB; clear HO136; have HO_5 := n0_; have HB := n1_; have HO139 := n2_; clear n0_ n1_ n2_; clear ho hb hg hat; obtain ⟨Ao38, co38, eo38⟩ := Kd.R_slice HO139.out; subst eo38; have p140 : 0 ≤ ((ji26) : Int) := of_decide_eq_true (by first | (with_reducible assumption) | assumption); have q140 : (ji26) < (y137.length : Int) := of_decide_eq_true (by first | (with_reducible assumption) | assumption); obtain ⟨ad140, e140, hx140_0⟩ := Kd.at_int (Kd.R_reads' HO139.out).2.2 (ji26) p140 q140; cases e140; replace p140 := eq_true p140; replace q140 := eq_true q140; have p29 : 0 ≤ ((ji26) : Int) := of_decide_eq_true (by first | (with_reducible assumption) | assumption); have q29 : ((ji26) : Int) < ((y137.length : Int) : Int) := of_decide_eq_true (by first | (with_reducible assumption) | assumption); obtain ⟨go29, co29, eo29, gb29, gl29, cl29, HG29⟩ := Kd.R_form HO139.out (by omega); (first | cases eo29 | (injection eo29 with ea_ en_ ec_; (first | subst ea_ | (injection ea_ with ea_; subst ea_)); subst ec_; clear en_)); have GB29 := Aside0.mk gb29; have GG29 := Aside0.mk HG29; clear gb29 gl29 HG29; (first | simp only [add_plain] at hx140_0 | skip); obtain ⟨hx29_0, hf29_0⟩ := Kd.R_celln 0 HO139.out ((ji26) : Int) p29 q29; replace p29 := eq_true p29; replace q29 := eq_true q29; obtain ⟨hy39_, hz39_⟩ := Kd.R_celln 0 HO139.out ((ji26) : Int) (of_decide_eq_true (by first | (with_reducible assumption) | assumption)) (of_decide_eq_true (by first | (with_reducible assumption) | assumption)); have HP39 := Kd.R_putg HO139.out ((ji26) : Int) (Go.bits .or .u8 (rd y137 (ji26)) 128)) | ((with_reducible refine gate_store (t := 5) (p := 54) rfl ?_); refine store_event (t := 5) (p := 54) (v := ?vo_w40) (w1 := (w36.setCell ⟨go29, ((ji26) : Int).toNat, none⟩ (.int .u8 (Go.bits .or .u8 (rd y137 (ji26)) 128)))) ?hg ?ho ?hn ?hr ?_; (case ho => rfl); (case hg => rfl); (case hn => rfl); (case hr => first | (go_simp; done) | (go_simp; rfl)); intro w40 hw; have hg : w36.grownBy w40 (some go29) := (by rw [hw]; exact HP39.2); have hp_ : Kd.R (Kd.int .u8) 5 w40 w.heap.size (fun k_ => some k_ ≠ (.slice Ao37 t128.length co37 : Value).ownBlock) (.slice (some ⟨go29, 0, none⟩) y137.length co38) y141 := (by rw [hw, Ny141.out]; exact HP39.1); clear HP39; have n0_ := Aside0.mk (Kd.R_after (v := (.slice (some ⟨go29, 0, none⟩) y137.length co38)) (v1 := (.slice (some ⟨go29, 0, none⟩) y137.length co38)) (ok := (fun _ => True)) (by (with_reducible repeat (first | apply Kd.R_alloc | apply Kd.R_drewN | apply Kd.R_drew)); exact HO_5.out) hg (.inl rfl)); have n1_ := Aside0.mk (hp_); have n2_ := Aside0.mk ((by rw [hw]; exact below_set (HB.out) GB29.out : Below w.heap.size w w40)); clear HO_5; clear HO139; clear HB; have HO_5 := n0_; have HO139 := n1_; have HB := n2_; clear n0_ n1_ n2_; clear hg hw hp_) | ((with_reducible refine gate_builtin (b := .append) (xs := #[.tmp 56, .tmp 57]) rfl ?_); (try (refine gate_guard (by rfl) ?_; dsimp only)); at_builtin; refine Kd.R_append (Kd.int .u8) (w0 := w) w.heap.size rfl (.tmp 56) (.tmp 57) 27 5 (.int .u8 0) 1 rfl Try.underlying27 info5 rfl (by decide) (by omega) (.slice (some ⟨go29, 0, none⟩) y137.length co38) y141 0 [.int .u8 0] (fun k_ => some k_ ≠ (.slice Ao37 t128.length co37 : Value).ownBlock) (fun _ => False) rfl rfl ?aP (fun _ hk => hk.elim) ?aF ?aO ?aB ?aS ?aL ?_; (case aP => exact rfl); (case aB => exact (by repeat (first | (with_reducible first | exact HB.out | apply below_alloc | apply pw_below_drewN | apply below_drew1) | exact HB.out))); (case aF => exact (fun k_ hk => Kd.fresh' (Kd.R_lt (by (with_reducible repeat (first | apply Kd.R_alloc | apply Kd.R_drewN | apply Kd.R_drew)); exact HO_5.out)) k_ hk)); (case aO => exact (by (with_reducible repeat (first | apply Kd.R_alloc | apply Kd.R_drewN | apply Kd.R_drew)); exact HO139.out)); (case aS => exact (below_size (by repeat (first | (with_reducible first | exact HB.out | apply below_alloc | apply pw_below_drewN | apply below_drew1) | exact HB.out)))); (case aL => have := LMc30.out; omega); intro v143 w41 ho hb hg hat; rw [← Ny142.out] at ho; have n0_ := Aside0.mk (Kd.R_after (ok := (fun _ => True)) (by (with_reducible repeat (first | apply Kd.R_alloc | apply Kd.R_drewN | apply Kd.R_drew)); exact HO_5.out) hg hat); have n1_ := Aside0.mk (hb); have n2_ := Aside0.mk (ho); clear HO_5; clear HB; clear HO139; have HO_5 := n0_; have HB := n1_; have HO144 := n2_; clear n0_ n1_ n2_; clear ho hb hg hat; obtain ⟨Ao42, co42, eo42⟩ := Kd.R_slice HO144.out; subst eo42) | ((with_reducible refine gate_callee (f := 12) rfl ?_); refine goesL_ (some 59) rfl rfl Try.func12 (by kernel_rfl) rfl #[.slice Ao42 y142.length co42] rfl (by (try simp only [List.map_toArray, List.map_cons, List.map_nil]); first | done | rfl | (simp only [List.length_drop, List.length_take]; rfl)) ?_; (with_reducible refine (bits_Unvarint.calls kj4 _ _ y142 t145 t146 _ ?side1 ?side2 A31.out).mono ?_); (case side1 => repeat (first | exact (Kd.R_reads' HO144.out).2.2 | (with_reducible refine Kd.C_alloc ?_ _) | (with_reducible refine Kd.C_drewN ?_ _) | (with_reducible refine Kd.C_drew ?_))); (case side2 => exact (Kd.R_reads' HO144.out).2.1); rintro e w' ⟨rfl, ⟨nd, rfl⟩⟩; refine ⟨_, rfl, ?_⟩) | (go_at_call 10; (with_reducible refine (dolmenlaw1_awake.calls kj4  t147 _ A33.out).mono ?_); rintro e w43 ⟨rfl, hb⟩; have n0_ := Aside0.mk (Kd.R_below (by (with_reducible repeat (first | apply Kd.R_alloc | apply Kd.R_drewN | apply Kd.R_drew)); exact HO_5.out) hb); have n1_ := Aside0.mk (Kd.R_below (by (with_reducible repeat (first | apply Kd.R_alloc | apply Kd.R_drewN | apply Kd.R_drew)); exact HO144.out) hb); have n2_ := Aside0.mk (below_step (by repeat (first | (with_reducible first | exact HB.out | apply below_alloc | apply pw_below_drewN | apply below_drew1) | exact HB.out)) hb); clear HO_5; clear HO144; clear HB; have HO_5 := n0_; have HO144 := n1_; have HB := n2_; clear n0_ n1_ n2_; (try clear hb); (try clear hb2); (try clear hk); (try clear hi)))
                  go_ret
                  exact ⟨by first | rfl | (simp [errW_none, errW_some] <;> rfl) | (simp only [← hji26]; first | rfl | (simp [errW_none, errW_some] <;> rfl)) | (simp [*, errW_none, errW_some] <;> rfl), by repeat (first | (with_reducible first | exact HB.out | apply below_alloc | apply pw_below_drewN | apply below_drew1) | exact HB.out)⟩
                · rw [if_neg c32] at H
                  have c32b0 : (t146 == 0) = false := beq_eq_false_iff_ne.mpr c32
                  have c32b1 : (t146 != 0) = true := bne_iff_ne.mpr c32
                  obtain rfl := Option.some.inj H
                  go_wp2_with (first | ((with_reducible refine gate_dst (N := 40) rfl ?_); (try (refine gate_guard (by rfl) ?_; dsimp only)); refine Kd.R_lit (Kd.int .u8) _ 5 ?hg (N := 40) ?hd (xs := ([] : List Int)) (inner := []) (ok := fun _ => True) (okp := fun _ => True) ?hr ?hp (fun _ hk => hk) trivial (Below.refl _ _) (Nat.le_refl _) (by simp) ?_; (case hd => rfl); (case hg => rfl); (case hr => first | (go_simp; done) | (go_simp; rfl)); (case hp => exact (Reps.none _ _)); intro v135 w44 ho45 hb hg_ hnew_; clear hg_ hnew_; (first | rw [← Ny134.out] at ho45 | (simp only [Int.reduceToNat] at ho45; rw [← Ny134.out] at ho45)); have n0_ := Aside0.mk (Kd.R_elder' (by (with_reducible repeat (first | apply Kd.R_alloc | apply Kd.R_drewN | apply Kd.R_drew)); exact HO_5.out) (Kd.R_base ho45) hb); have n1_ := Aside0.mk (Kd.R_lower (Kd.R_new' ho45 (Kd.R_lt (by (with_reducible repeat (first | apply Kd.R_alloc | apply Kd.R_drewN | apply Kd.R_drew)); exact HO_5.out))) (below_size (by repeat (first | (with_reducible first | exact HB.out | apply below_alloc | apply pw_below_drewN | apply below_drew1) | exact HB.out)))); have n2_ := Aside0.mk (below_step (by repeat (first | (with_reducible first | exact HB.out | apply below_alloc | apply pw_below_drewN | apply below_drew1) | exact HB.out)) hb); clear HO_5; clear HB; have HO_5 := n0_; have HO136 := n1_; have HB := n2_; clear n0_ n1_ n2_; clear hb ho45; obtain ⟨Ao47, co47, eo47⟩ := Kd.R_slice HO_5.out; subst eo47) | ((with_reducible refine gate_builtin (b := .append) (xs := #[.tmp 40, .tmp 41]) rfl ?_); (try (refine gate_guard (by rfl) ?_; dsimp only)); at_builtin; refine Kd.R_append_rows (Kd.int .u8) (w0 := w) w.heap.size rfl (.tmp 40) (.tmp 41) 27 5 (.int .u8 0) 1 rfl Try.underlying27 info5 rfl (by decide) (by omega) v135 y134 t128 _ _ _ (fun k_ => some k_ ≠ (.slice Ao47 t128.length co47 : Value).ownBlock) (fun _ => False) rfl rfl ?aO ?aR (fun _ _ h => h) (fun _ h => h.elim) ?aF ?aB ?aS ?aL ?_; (case aR => repeat (first | exact (Kd.R_reads' HO_5.out).2.2 | (with_reducible refine Kd.C_alloc ?_ _) | (with_reducible refine Kd.C_drewN ?_ _) | (with_reducible refine Kd.C_drew ?_))); (case aB => exact (by repeat (first | (with_reducible first | exact HB.out | apply below_alloc | apply pw_below_drewN | apply below_drew1) | exact HB.out))); (case aF => exact (fun k_ hk => Kd.fresh' (Kd.R_lt (by (with_reducible repeat (first | apply Kd.R_alloc | apply Kd.R_drewN | apply Kd.R_drew)); exact HO_5.out)) k_ hk)); (case aO => exact (by (with_reducible repeat (first | apply Kd.R_alloc | apply Kd.R_drewN | apply Kd.R_drew)); exact Kd.R_mono HO136.out (fun _ hk => hk.2))); (case aS => exact (below_size (by repeat (first | (with_reducible first | exact HB.out | apply below_alloc | apply pw_below_drewN | apply below_drew1) | exact HB.out)))); (case aL => have := LMc25.out; omega); intro v138 w46 ho hb hg hat; rw [← Ny137.out] at ho; have n0_ := Aside0.mk (Kd.R_after (ok := (fun _ => True)) (by (with_reducible repeat (first | apply Kd.R_alloc | apply Kd.R_drewN | apply Kd.R_drew)); exact HO_5.out) hg hat); have n1_ := Aside0.mk (hb); have n2_ := Aside0.mk (ho); clear HO_5; clear HB; clear HO136; have HO_5 := n0_; have HB := n1_; have HO139 := n2_; clear n0_ n1_ n2_; clear ho hb hg hat; obtain ⟨Ao48, co48, eo48⟩ := Kd.R_slice HO139.out; subst eo48; have p140 : 0 ≤ ((ji26) : Int) := of_decide_eq_true (by first | (with_reducible assumption) | assumption); have q140 : (ji26) < (y137.length : Int) := of_decide_eq_true (by first | (with_reducible assumption) | assumption); obtain ⟨ad140, e140, hx140_0⟩ := Kd.at_int (Kd.R_reads' HO139.out).2.2 (ji26) p140 q140; cases e140; replace p140 := eq_true p140; replace q140 := eq_true q140; have p29 : 0 ≤ ((ji26) : Int) := of_decide_eq_true (by first | (with_reducible assumption) | assumption); have q29 : ((ji26) : Int) < ((y137.length : Int) : Int) := of_decide_eq_true (by first | (with_reducible assumption) | assumption); obtain ⟨go29, co29, eo29, gb29, gl29, cl29, HG29⟩ := Kd.R_form HO139.out (by omega); (first | cases eo29 | (injection eo29 with ea_ en_ ec_; (first | subst ea_ | (injection ea_ with ea_; subst ea_)); subst ec_; clear en_)); have GB29 := Aside0.mk gb29; have GG29 := Aside0.mk HG29; clear gb29 gl29 HG29; (first | simp only [add_plain] at hx140_0 | skip); obtain ⟨hx29_0, hf29_0⟩ := Kd.R_celln 0 HO139.out ((ji26) : Int) p29 q29; replace p29 := eq_true p29; replace q29 := eq_true q29; obtain ⟨hy49_, hz49_⟩ := Kd.R_celln 0 HO139.out ((ji26) : Int) (of_decide_eq_true (by first | (with_reducible assumption) | assumption)) (of_decide_eq_true (by first | (with_reducible assumption) | assumption)); have HP49 := Kd.R_putg HO139.out ((ji26) : Int) (Go.bits .or .u8 (rd y137 (ji26)) 128)) | ((with_reducible refine gate_store (t := 5) (p := 54) rfl ?_); refine store_event (t := 5) (p := 54) (v := ?vo_w50) (w1 := (w46.setCell ⟨go29, ((ji26) : Int).toNat, none⟩ (.int .u8 (Go.bits .or .u8 (rd y137 (ji26)) 128)))) ?hg ?ho ?hn ?hr ?_; (case ho => rfl); (case hg => rfl); (case hn => rfl); (case hr => first | (go_simp; done) | (go_simp; rfl)); intro w50 hw; have hg : w46.grownBy w50 (some go29) := (by rw [hw]; exact HP49.2); have hp_ : Kd.R (Kd.int .u8) 5 w50 w.heap.size (fun k_ => some k_ ≠ (.slice Ao47 t128.length co47 : Value).ownBlock) (.slice (some ⟨go29, 0, none⟩) y137.length co48) y141 := (by rw [hw, Ny141.out]; exact HP49.1); clear HP49; have n0_ := Aside0.mk (Kd.R_after (v := (.slice (some ⟨go29, 0, none⟩) y137.length co48)) (v1 := (.slice (some ⟨go29, 0, none⟩) y137.length co48)) (ok := (fun _ => True)) (by (with_reducible repeat (first | apply Kd.R_alloc | apply Kd.R_drewN | apply Kd.R_drew)); exact HO_5.out) hg (.inl rfl)); have n1_ := Aside0.mk (hp_); have n2_ := Aside0.mk ((by rw [hw]; exact below_set (HB.out) GB29.out : Below w.heap.size w w50)); clear HO_5; clear HO139; clear HB; have HO_5 := n0_; have HO139 := n1_; have HB := n2_; clear n0_ n1_ n2_; clear hg hw hp_) | ((with_reducible refine gate_builtin (b := .append) (xs := #[.tmp 56, .tmp 57]) rfl ?_); (try (refine gate_guard (by rfl) ?_; dsimp only)); at_builtin; refine Kd.R_append (Kd.int .u8) (w0 := w) w.heap.size rfl (.tmp 56) (.tmp 57) 27 5 (.int .u8 0) 1 rfl Try.underlying27 info5 rfl (by decide) (by omega) (.slice (some ⟨go29, 0, none⟩) y137.length co48) y141 0 [.int .u8 0] (fun k_ => some k_ ≠ (.slice Ao47 t128.length co47 : Value).ownBlock) (fun _ => False) rfl rfl ?aP (fun _ hk => hk.elim) ?aF ?aO ?aB ?aS ?aL ?_; (case aP => exact rfl); (case aB => exact (by repeat (first | (with_reducible first | exact HB.out | apply below_alloc | apply pw_below_drewN | apply below_drew1) | exact HB.out))); (case aF => exact (fun k_ hk => Kd.fresh' (Kd.R_lt (by (with_reducible repeat (first | apply Kd.R_alloc | apply Kd.R_drewN | apply Kd.R_drew)); exact HO_5.out)) k_ hk)); (case aO => exact (by (with_reducible repeat (first | apply Kd.R_alloc | apply Kd.R_drewN | apply Kd.R_drew)); exact HO139.out)); (case aS => exact (below_size (by repeat (first | (with_reducible first | exact HB.out | apply below_alloc | apply pw_below_drewN | apply below_drew1) | exact HB.out)))); (case aL => have := LMc30.out; omega); intro v143 w51 ho hb hg hat; rw [← Ny142.out] at ho; have n0_ := Aside0.mk (Kd.R_after (ok := (fun _ => True)) (by (with_reducible repeat (first | apply Kd.R_alloc | apply Kd.R_drewN | apply Kd.R_drew)); exact HO_5.out) hg hat); have n1_ := Aside0.mk (hb); have n2_ := Aside0.mk (ho); clear HO_5; clear HB; clear HO139; have HO_5 := n0_; have HB := n1_; have HO144 := n2_; clear n0_ n1_ n2_; clear ho hb hg hat; obtain ⟨Ao52, co52, eo52⟩ := Kd.R_slice HO144.out; subst eo52) | ((with_reducible refine gate_callee (f := 12) rfl ?_); refine goesL_ (some 59) rfl rfl Try.func12 (by kernel_rfl) rfl #[.slice Ao52 y142.length co52] rfl (by (try simp only [List.map_toArray, List.map_cons, List.map_nil]); first | done | rfl | (simp only [List.length_drop, List.length_take]; rfl)) ?_; (with_reducible refine (bits_Unvarint.calls kj4 _ _ y142 t145 t146 _ ?side1 ?side2 A31.out).mono ?_); (case side1 => repeat (first | exact (Kd.R_reads' HO144.out).2.2 | (with_reducible refine Kd.C_alloc ?_ _) | (with_reducible refine Kd.C_drewN ?_ _) | (with_reducible refine Kd.C_drew ?_))); (case side2 => exact (Kd.R_reads' HO144.out).2.1); rintro e w' ⟨rfl, ⟨nd, rfl⟩⟩; refine ⟨_, rfl, ?_⟩))
                  go_ret
                  exact ⟨by first | rfl | (simp [errW_none, errW_some] <;> rfl) | (simp only [← hji26]; first | rfl | (simp [errW_none, errW_some] <;> rfl)) | (simp [*, errW_none, errW_some] <;> rfl), by repeat (first | (with_reducible first | exact HB.out | apply below_alloc | apply pw_below_drewN | apply below_drew1) | exact HB.out)⟩
              · rw [if_neg c30] at H
                exact absurd H (by simp)
            · rw [if_neg c28] at H
              exact absurd H (by simp)
          · rw [if_neg c27] at H
            exact absurd H (by simp)
        · rw [if_neg c25] at H
          exact absurd H (by simp)

/-- THE ONE PURE STATEMENT of dolmenlaw1_BitsOrder: yours. -/
def dolmenlaw1_BitsOrder.Pure : Prop := ∀ (a0 : Int) (a1 : Int), (Lit.int .u64 a0).wf = true → (Lit.int .u64 a1).wf = true → ∃ k, dolmenlaw1_BitsOrder.f k a0 a1 = some true
theorem dolmenlaw1_BitsOrder.walk (P : dolmenlaw1_BitsOrder.Pure) (a0 : Int) (a1 : Int) (w : World) (w0 : (Lit.int .u64 a0).wf = true) (w1 : (Lit.int .u64 a1).wf = true) :
    Calls Try.prog 4 #[.int .u64 a0, .int .u64 a1] w fun e w' => e = .returned (.bool true) ∧ Below w.heap.size w w' := by
  obtain ⟨k, h⟩ := P a0 a1 w0 w1
  refine (dolmenlaw1_BitsOrder.calls k a0 a1 true w h).mono ?_
  rintro e w' ⟨rfl, hd⟩
  exact ⟨rfl, hd⟩

end Go.Proofs.Ytfonkhikdaegpaa.PBitsOrder
