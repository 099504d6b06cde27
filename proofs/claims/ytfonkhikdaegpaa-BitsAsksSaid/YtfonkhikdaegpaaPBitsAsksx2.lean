/- Functions of the given program told as plain Lean functions, and that the code does what they tell: written by a program of this session over the print of the kit, with some contracts proved by hand. Conditions: those typed at each theorem. -/
import Derived.Test.YtfonkhikdaegpaaPBitsAsksx0
namespace Go.Proofs.Ytfonkhikdaegpaa.PBitsAsks
open Go.RowKit Go.Proofs.YtfonkhikdaegpaaW.PrintWords Go.Proofs.YtfonkhikdaegpaaW.PrintLast Go.Proofs.YtfonkhikdaegpaaW.PrintMore
attribute [local go_sem] max2_int min2_int max_two min_two max_three min_three max_four min_four   -- for this text's walks alone
set_option linter.unusedVariables false
set_option linter.unusedSimpArgs false

/-! ### bits_Bytes: function 13 -/
mutual
def bits_Bytes.j0 : Nat → List Int → Int → Bool → Option (List Int × Option Int)
  | 0, _, _, _ => none
  | k + 1, x0, x1, x25 => if x25 = true then (some (([] : List Int), some 14)) else (bits_Bytes.l0 k x0 x1 ([] : List Int) (wrap64 (8 * (x0.length : Int))) 0)
def bits_Bytes.l0 : Nat → List Int → Int → List Int → Int → Int → Option (List Int × Option Int)
  | 0, _, _, _, _, _ => none
  | k + 1, x0, x1, x6, x29, x30 => if x30 < x29 then (if 0 ≤ (wrap64 (Int.tdiv x30 8)) then (if (wrap64 (Int.tdiv x30 8)) < (x0.length : Int) then (if 0 ≤ (wrap64 (8 * (Int.tmod x30 8))) then (if x30 < x1 then (if x6.length < 140737488355328 then (bits_Bytes.l0 k x0 x1 (x6 ++ [(shr .u64 (rd x0 (wrap64 (Int.tdiv x30 8))) (wrap64 (8 * (Int.tmod x30 8)))) % 256]) x29 (wrap64 (x30 + 1))) else (none)) else (if ((shr .u64 (rd x0 (wrap64 (Int.tdiv x30 8))) (wrap64 (8 * (Int.tmod x30 8)))) % 256) = 0 then (bits_Bytes.l0 k x0 x1 x6 x29 (wrap64 (x30 + 1))) else (some (([] : List Int), some 14)))) else (none)) else (none)) else (none)) else (some (x6, none))
end
def bits_Bytes.f (k : Nat) (l0 : List Int) (a1 : Int) : Option (List Int × Option Int) := if a1 < 0 then (bits_Bytes.j0 k l0 a1 true) else (if a1 > (wrap64 (8 * (l0.length : Int))) then (bits_Bytes.j0 k l0 a1 true) else (bits_Bytes.j0 k l0 a1 (decide ((wrap64 ((wrap64 (8 * (l0.length : Int))) - a1)) ≥ 8))))
theorem bits_Bytes.mono_l : ∀ k, (∀ y0 y1 y2, LeO (bits_Bytes.j0 k y0 y1 y2) (bits_Bytes.j0 (k + 1) y0 y1 y2)) ∧ (∀ y0 y1 y2 y3 y4, LeO (bits_Bytes.l0 k y0 y1 y2 y3 y4) (bits_Bytes.l0 (k + 1) y0 y1 y2 y3 y4))
  | 0 => ⟨fun _ _ _ r h => by simp [bits_Bytes.j0] at h, fun _ _ _ _ _ r h => by simp [bits_Bytes.l0] at h⟩
  | k + 1 => by
    obtain ⟨ih0, ih1⟩ := bits_Bytes.mono_l k
    refine ⟨?_, ?_⟩
    · intro y0 y1 y2
      unfold bits_Bytes.j0
      repeat' first
      | (with_reducible exact ih0 _ _ _)
      | (with_reducible exact ih1 _ _ _ _ _)
      | (with_reducible exact LeO.refl _)
      | (with_reducible exact LeO.none _)
      | (with_reducible refine LeO.ite ?_ ?_)
      | (with_reducible refine LeO.bind ?_ (fun _ => ?_))
      | exact ih0 _ _ _
      | exact ih1 _ _ _ _ _
      | exact LeO.none _
      | refine LeO.ite ?_ ?_
      | refine LeO.bind ?_ (fun _ => ?_)
    · intro y0 y1 y2 y3 y4
      unfold bits_Bytes.l0
      repeat' first
      | (with_reducible exact ih0 _ _ _)
      | (with_reducible exact ih1 _ _ _ _ _)
      | (with_reducible exact LeO.refl _)
      | (with_reducible exact LeO.none _)
      | (with_reducible refine LeO.ite ?_ ?_)
      | (with_reducible refine LeO.bind ?_ (fun _ => ?_))
      | exact ih0 _ _ _
      | exact ih1 _ _ _ _ _
      | exact LeO.none _
      | refine LeO.ite ?_ ?_
      | refine LeO.bind ?_ (fun _ => ?_)
theorem bits_Bytes.mono : ∀ a0 a1 k, LeO (bits_Bytes.f k a0 a1) (bits_Bytes.f (k + 1) a0 a1) := by
  intro a0 a1 k
  obtain ⟨ih0, ih1⟩ := bits_Bytes.mono_l k
  unfold bits_Bytes.f
  repeat' first
      | (with_reducible exact ih0 _ _ _)
      | (with_reducible exact ih1 _ _ _ _ _)
      | (with_reducible exact LeO.refl _)
      | (with_reducible exact LeO.none _)
      | (with_reducible refine LeO.ite ?_ ?_)
      | (with_reducible refine LeO.bind ?_ (fun _ => ?_))
      | exact ih0 _ _ _
      | exact ih1 _ _ _ _ _
      | exact LeO.none _
      | refine LeO.ite ?_ ?_
      | refine LeO.bind ?_ (fun _ => ?_)
set_option maxHeartbeats 8000000 in
set_option maxRecDepth 100000 in
theorem bits_Bytes.calls (k : Nat) (A0 : Option Addr) (c0 : Nat) (l0 : List Int) (a1 : Int) (r1 : List Int) (r2 : Option Int) (w : World) (hr0 : Kd.C (Kd.int .u64) w A0 l0.length l0) (hc0 : l0.length ≤ c0) (h : bits_Bytes.f k l0 a1 = some (r1, r2)) :
    Calls Try.prog 13 #[.slice A0 l0.length c0, .int .i64 a1] w fun e w' => ∃ v0_ : Value, e = .returned (.tuple #[v0_, errW r2]) ∧ Kd.R (Kd.int .u8) 5 w' w.heap.size (fun _ => True) v0_ r1 ∧ Below w.heap.size w w' := by
  have hu33 := Try.underlying33
  have hu51 := Try.underlying51
  have HR0 := Aside0.mk hr0
  have HC0 := Aside0.mk hc0
  clear hr0 hc0
  have HB := Aside0.mk (Below.refl w.heap.size w)
  have H : (if a1 < 0 then (bits_Bytes.j0 k l0 a1 true) else (if a1 > (wrap64 (8 * (l0.length : Int))) then (bits_Bytes.j0 k l0 a1 true) else (bits_Bytes.j0 k l0 a1 (decide ((wrap64 ((wrap64 (8 * (l0.length : Int))) - a1)) ≥ 8))))) = some (r1, r2) := h
  clear h
  have HC3 := Aside0.mk H
  clear H
  go_enter Try.func13, Try.ntmps13
  go_upto_region 1 with (fail)
  go_cut [25] (fun v25 wc => ∃ (kq : Nat) (x25_2 : Bool), v25 = .bool x25_2 ∧ Aside0 (bits_Bytes.j0 kq l0 a1 x25_2 = some (r1, r2)) ∧ Aside0 (kq ≤ k) ∧ Aside0 (Below w.heap.size w wc))
  case first =>
    have H := HC3.out
    clear HC3
    by_cases c4 : a1 < 0
    · rw [if_pos c4] at H
      have c4b0 : decide (a1 < 0) = true := decide_eq_true c4
      clear c4
      (first | rw [c4b0] | (simp only [i64_w, i32_w]; rw [c4b0]) | skip)
      have H' := Aside0.mk H
      clear H
      go_wp2
      go_meet
      case rel => exact ⟨_, (true), (by first | rfl | (simp; done) | (simp [*]; done)), H', ⟨by first | omega | exact Nat.le_refl _⟩, ⟨by repeat (first | (with_reducible first | exact HB.out | apply below_alloc | apply pw_below_drewN | apply below_drew1) | exact HB.out)⟩⟩
    · rw [if_neg c4] at H
      have c4b0 : decide (a1 < 0) = false := decide_eq_false c4
      clear c4
      (first | rw [c4b0] | (simp only [i64_w, i32_w]; rw [c4b0]) | skip)
      by_cases c5 : a1 > (wrap64 (8 * (l0.length : Int)))
      · rw [if_pos c5] at H
        have c5b0 : decide ((wrap64 (8 * (l0.length : Int))) < a1) = true := decide_eq_true c5
        clear c5
        have H' := Aside0.mk H
        clear H
        go_wp2
        go_meet
        case rel => exact ⟨_, (true), (by first | rfl | (simp; done) | (simp [*]; done)), H', ⟨by first | omega | exact Nat.le_refl _⟩, ⟨by repeat (first | (with_reducible first | exact HB.out | apply below_alloc | apply pw_below_drewN | apply below_drew1) | exact HB.out)⟩⟩
      · rw [if_neg c5] at H
        have c5b0 : decide ((wrap64 (8 * (l0.length : Int))) < a1) = false := decide_eq_false c5
        clear c5
        have H' := Aside0.mk H
        clear H
        go_wp2
        go_meet
        case rel => exact ⟨_, (decide ((wrap64 ((wrap64 (8 * (l0.length : Int))) - a1)) ≥ 8)), (by first | rfl | (simp; done) | (simp [*]; done)), H', ⟨by first | omega | exact Nat.le_refl _⟩, ⟨by repeat (first | (with_reducible first | exact HB.out | apply below_alloc | apply pw_below_drewN | apply below_drew1) | exact HB.out)⟩⟩
  case rest =>
    clear HC3
    try clear c1
    try clear p2
    try clear c4
    try clear c4b0
    try clear c5
    try clear c5b0
    obtain ⟨kq, x25_2, rfl, HA, HJ2, HB⟩ := hcut
    cases kq with
    | zero => exact absurd HA.out (by simp [bits_Bytes.j0])
    | succ kj2 =>
      have H := HA.out
      clear HA
      simp only [bits_Bytes.j0] at H
      by_cases c6 : x25_2 = true
      · subst c6
        have H1 : (some (([] : List Int), some 14)) = some (r1, r2) := by rw [if_pos rfl] at H; exact H
        clear H
        have H := H1
        clear H1
        simp only [Option.some.injEq, Prod.mk.injEq] at H
        obtain ⟨rfl, rfl⟩ := H
        go_wp2
        go_ret2
        exact ⟨_, by first | rfl | (simp [errW_none, errW_some] <;> rfl) | (simp [*, errW_none, errW_some] <;> rfl), by first | exact Kd.R_nil _ _ _ _ _ | exact Kd.N_nil _ _ _ _ _ | exact Kd.V_nil _ _ _ _ _ | exact Kd.Q_nil _ _ _ _ _ | exact Kd.S_nil _ _ _ _ _, by repeat (first | (with_reducible first | exact HB.out | apply below_alloc | apply pw_below_drewN | apply below_drew1) | exact HB.out)⟩
      · replace c6 := Bool.eq_false_iff.mpr c6
        subst c6
        have H1 : (bits_Bytes.l0 kj2 l0 a1 ([] : List Int) (wrap64 (8 * (l0.length : Int))) 0) = some (r1, r2) := by rw [if_neg (show ¬ (false = true) by decide)] at H; exact H
        clear H
        have H := H1
        clear H1
        have H' := Aside0.mk H
        clear H
        go_wp2
        go_loopg [6, 30] kj2 (fun kq v6 v30 w' => ∃ (x6_2 : List Int) (x30_2 : Int), v30 = .int .i64 x30_2 ∧ Aside0 (bits_Bytes.l0 kq l0 a1 x6_2 (wrap64 (8 * (l0.length : Int))) x30_2 = some (r1, r2)) ∧ Aside0 (kq ≤ kj2) ∧ Aside0 (Kd.R (Kd.int .u8) 5 w' w.heap.size (fun _ => True) v6 x6_2) ∧ Aside0 (Below w.heap.size w w'))
        case atStart => exact ⟨(([] : List Int)), (0), (by first | rfl | (simp; done) | (simp [*]; done)), H', ⟨Nat.le_refl _⟩, ⟨by first | exact Kd.R_nil _ _ _ _ _ | exact Kd.N_nil _ _ _ _ _ | exact Kd.V_nil _ _ _ _ _ | exact Kd.Q_nil _ _ _ _ _ | exact Kd.S_nil _ _ _ _ _⟩, ⟨by repeat (first | (with_reducible first | exact HB.out | apply below_alloc | apply pw_below_drewN | apply below_drew1) | exact HB.out)⟩⟩
        case round =>
          clear H'
          try clear c1
          try clear p2
          try clear c4
          try clear c4b0
          try clear c5
          try clear c5b0
          try clear c6
          try clear p6
          try clear p2
          obtain ⟨x6_2, x30_2, rfl, HA, HK2, HO_6, HB⟩ := hrel
          cases gk with
          | zero => exact absurd HA.out (by simp [bits_Bytes.l0])
          | succ k2 =>
            have H := HA.out
            clear HA
            simp only [bits_Bytes.l0] at H
            by_cases c7 : x30_2 < (wrap64 (8 * (l0.length : Int)))
            · rw [if_pos c7] at H
              have c7b0 : decide (x30_2 < (wrap64 (8 * (l0.length : Int)))) = true := decide_eq_true c7
              clear c7
              obtain ⟨ji8, hji8⟩ : ∃ j_ : Int, (wrap64 (Int.tdiv x30_2 8)) = j_ := ⟨_, rfl⟩
              replace H : (if 0 ≤ (ji8) then (if (ji8) < (l0.length : Int) then (if 0 ≤ (wrap64 (8 * (Int.tmod x30_2 8))) then (if x30_2 < a1 then (if x6_2.length < 140737488355328 then (bits_Bytes.l0 k2 l0 a1 (x6_2 ++ [(shr .u64 (rd l0 (ji8)) (wrap64 (8 * (Int.tmod x30_2 8)))) % 256]) (wrap64 (8 * (l0.length : Int))) (wrap64 (x30_2 + 1))) else (none)) else (if ((shr .u64 (rd l0 (ji8)) (wrap64 (8 * (Int.tmod x30_2 8)))) % 256) = 0 then (bits_Bytes.l0 k2 l0 a1 x6_2 (wrap64 (8 * (l0.length : Int))) (wrap64 (x30_2 + 1))) else (some (([] : List Int), some 14)))) else (none)) else (none)) else (none)) = some (r1, r2) := by first | (rw [hji8] at H; exact H) | (simp only [hji8] at H ⊢; exact H)
              have hji8w : (IntKind.i64.wrap (Int.tdiv x30_2 8)) = ji8 := (i64_w _).trans hji8
              by_cases c9 : 0 ≤ (ji8)
              · rw [if_pos c9] at H
                have c9b0 : decide (0 ≤ (ji8)) = true := decide_eq_true c9
                clear c9
                by_cases c10 : (ji8) < (l0.length : Int)
                · rw [if_pos c10] at H
                  have c10b0 : decide ((ji8) < (l0.length : Int)) = true := decide_eq_true c10
                  clear c10
                  obtain ⟨ji11, hji11⟩ : ∃ j_ : Int, (wrap64 (8 * (Int.tmod x30_2 8))) = j_ := ⟨_, rfl⟩
                  replace H : (if 0 ≤ (ji11) then (if x30_2 < a1 then (if x6_2.length < 140737488355328 then (bits_Bytes.l0 k2 l0 a1 (x6_2 ++ [(shr .u64 (rd l0 (ji8)) (ji11)) % 256]) (wrap64 (8 * (l0.length : Int))) (wrap64 (x30_2 + 1))) else (none)) else (if ((shr .u64 (rd l0 (ji8)) (ji11)) % 256) = 0 then (bits_Bytes.l0 k2 l0 a1 x6_2 (wrap64 (8 * (l0.length : Int))) (wrap64 (x30_2 + 1))) else (some (([] : List Int), some 14)))) else (none)) = some (r1, r2) := by first | (rw [hji11] at H; exact H) | (simp only [hji11] at H ⊢; exact H)
                  have hji11w : (IntKind.i64.wrap (8 * (Int.tmod x30_2 8))) = ji11 := (i64_w _).trans hji11
                  by_cases c12 : 0 ≤ (ji11)
                  · rw [if_pos c12] at H
                    have c12b0 := eq_true c12
                    have c12b1 : decide (0 ≤ (ji11)) = true := decide_eq_true c12
                    clear c12
                    obtain ⟨ji13, hji13⟩ : ∃ j_ : Int, (shr .u64 (rd l0 (ji8)) (ji11)) = j_ := ⟨_, rfl⟩
                    replace H : (if x30_2 < a1 then (if x6_2.length < 140737488355328 then (bits_Bytes.l0 k2 l0 a1 (x6_2 ++ [(ji13) % 256]) (wrap64 (8 * (l0.length : Int))) (wrap64 (x30_2 + 1))) else (none)) else (if ((ji13) % 256) = 0 then (bits_Bytes.l0 k2 l0 a1 x6_2 (wrap64 (8 * (l0.length : Int))) (wrap64 (x30_2 + 1))) else (some (([] : List Int), some 14)))) = some (r1, r2) := by first | (rw [hji13] at H; exact H) | (simp only [hji13] at H ⊢; exact H)
                    have hji13_ : ((rd l0 (ji8)) / 2 ^ min (ji11).toNat 64) = ji13 := hji13
                    have hji13z : (ji11) ≤ 64 → ((rd l0 (ji8)) / 2 ^ (ji11).toNat) = ji13 := shr_small hji13
                    by_cases c14 : x30_2 < a1
                    · rw [if_pos c14] at H
                      have c14b0 : decide (x30_2 < a1) = true := decide_eq_true c14
                      clear c14
                      by_cases c15 : x6_2.length < 140737488355328
                      · rw [if_pos c15] at H
                        have LMc15 := Aside0.mk c15
                        clear c15
                        obtain ⟨y128, hy128⟩ : ∃ y_ : List Int, y_ = (x6_2 ++ [(ji13) % 256]) := ⟨_, rfl⟩
                        replace H : (bits_Bytes.l0 k2 l0 a1 y128 (wrap64 (8 * (l0.length : Int))) (wrap64 (x30_2 + 1))) = some (r1, r2) := by first | (rw [hy128]; with_reducible exact H) | (have H2_ := (Option.bind_some _ _).symm.trans H; rw [hy128]; with_reducible exact H2_) | (have H2_ := (Option.bind_some _ _).symm.trans H; with_reducible exact H2_) | with_reducible exact H | (rw [hy128]; exact H) | exact H
                        have Ny128 := Aside0.mk hy128
                        clear hy128
                        have H' := Aside0.mk H
                        clear H
                        have p127 : 0 ≤ ((ji8) : Int) := of_decide_eq_true (by first | (with_reducible assumption) | assumption)
                        have q127 : (ji8) < (l0.length : Int) := of_decide_eq_true (by first | (with_reducible assumption) | assumption)
                        obtain ⟨ad127, e127, hx127_0⟩ := Kd.at_int HR0.out (ji8) p127 q127
                        cases e127
                        replace hx127_0 := (HB.out.cell (World.block_lt_of_cell? w _ hx127_0)).trans hx127_0
                        replace p127 := eq_true p127
                        replace q127 := eq_true q127
                        go_wp2_with (first | ((with_reducible refine gate_builtin (b := .append) (xs := #[.tmp 47, .tmp 49]) rfl ?_); (try (refine gate_guard (by rfl) ?_; dsimp only)); at_builtin; refine Kd.R_append (Kd.int .u8) (w0 := w) w.heap.size rfl (.tmp 47) (.tmp 49) 27 5 (.int .u8 0) 1 rfl Try.underlying27 info5 rfl (by decide) (by omega) u6 x6_2 ((ji13) % 256) [.int .u8 ((ji13) % 256)] (fun _ => True) (fun _ => False) rfl rfl ?aP (fun _ hk => hk.elim) ?aF ?aO ?aB ?aS ?aL ?_; (case aP => exact rfl); (case aB => exact (by repeat (first | (with_reducible first | exact HB.out | apply below_alloc | apply pw_below_drewN | apply below_drew1) | exact HB.out))); (case aF => exact (fun _ _ => trivial)); (case aO => exact (by (with_reducible repeat (first | apply Kd.R_alloc | apply Kd.R_drewN | apply Kd.R_drew)); exact HO_6.out)); (case aS => exact (below_size (by repeat (first | (with_reducible first | exact HB.out | apply below_alloc | apply pw_below_drewN | apply below_drew1) | exact HB.out)))); (case aL => have := LMc15.out; omega); intro v129 w16 ho hb hg hat; rw [← Ny128.out] at ho; have n0_ := Aside0.mk (hb); have n1_ := Aside0.mk (ho); clear HB; clear HO_6; have HB := n0_; have HO130 := n1_; clear n0_ n1_; clear ho hb hg hat))
                        go_roundg k2
                        case measure => have := HJ2.out; have := HK2.out; omega
                        case rel => exact ⟨(y128), (wrap64 (x30_2 + 1)), (by first | rfl | (simp; done) | (simp [*]; done)), H', ⟨by have := HJ2.out; have := HK2.out; omega⟩, ⟨by (with_reducible repeat (first | apply Kd.R_alloc | apply Kd.R_drewN | apply Kd.R_drew)); exact HO130.out⟩, ⟨by repeat (first | (with_reducible first | exact HB.out | apply below_alloc | apply pw_below_drewN | apply below_drew1) | exact HB.out)⟩⟩
                      · rw [if_neg c15] at H
                        exact absurd H (by simp)
                    · rw [if_neg c14] at H
                      have c14b0 : decide (x30_2 < a1) = false := decide_eq_false c14
                      clear c14
                      by_cases c17 : ((ji13) % 256) = 0
                      · rw [if_pos c17] at H
                        have c17b0 : (((ji13) % 256) == 0) = true := beq_iff_eq.mpr c17
                        have c17b1 : (((ji13) % 256) != 0) = false := bne_eq_false_iff_eq.mpr c17
                        clear c17
                        have H' := Aside0.mk H
                        clear H
                        have p127 : 0 ≤ ((ji8) : Int) := of_decide_eq_true (by first | (with_reducible assumption) | assumption)
                        have q127 : (ji8) < (l0.length : Int) := of_decide_eq_true (by first | (with_reducible assumption) | assumption)
                        obtain ⟨ad127, e127, hx127_0⟩ := Kd.at_int HR0.out (ji8) p127 q127
                        cases e127
                        replace hx127_0 := (HB.out.cell (World.block_lt_of_cell? w _ hx127_0)).trans hx127_0
                        replace p127 := eq_true p127
                        replace q127 := eq_true q127
                        go_wp2
                        go_roundg k2
                        case measure => have := HJ2.out; have := HK2.out; omega
                        case rel => exact ⟨(x6_2), (wrap64 (x30_2 + 1)), (by first | rfl | (simp; done) | (simp [*]; done)), H', ⟨by have := HJ2.out; have := HK2.out; omega⟩, ⟨by (with_reducible repeat (first | apply Kd.R_alloc | apply Kd.R_drewN | apply Kd.R_drew)); exact HO_6.out⟩, ⟨by repeat (first | (with_reducible first | exact HB.out | apply below_alloc | apply pw_below_drewN | apply below_drew1) | exact HB.out)⟩⟩
                      · rw [if_neg c17] at H
                        have c17b0 : (((ji13) % 256) == 0) = false := beq_eq_false_iff_ne.mpr c17
                        have c17b1 : (((ji13) % 256) != 0) = true := bne_iff_ne.mpr c17
                        simp only [Option.some.injEq, Prod.mk.injEq] at H
                        obtain ⟨rfl, rfl⟩ := H
                        have p127 : 0 ≤ ((ji8) : Int) := of_decide_eq_true (by first | (with_reducible assumption) | assumption)
                        have q127 : (ji8) < (l0.length : Int) := of_decide_eq_true (by first | (with_reducible assumption) | assumption)
                        obtain ⟨ad127, e127, hx127_0⟩ := Kd.at_int HR0.out (ji8) p127 q127
                        cases e127
                        replace hx127_0 := (HB.out.cell (World.block_lt_of_cell? w _ hx127_0)).trans hx127_0
                        replace p127 := eq_true p127
                        replace q127 := eq_true q127
                        go_wp2
                        go_ret2
                        exact ⟨_, by first | rfl | (simp [errW_none, errW_some] <;> rfl) | (simp only [← hji8, ← hji11, ← hji13]; first | rfl | (simp [errW_none, errW_some] <;> rfl)) | (simp [*, errW_none, errW_some] <;> rfl), by first | exact Kd.R_nil _ _ _ _ _ | exact Kd.N_nil _ _ _ _ _ | exact Kd.V_nil _ _ _ _ _ | exact Kd.Q_nil _ _ _ _ _ | exact Kd.S_nil _ _ _ _ _, by repeat (first | (with_reducible first | exact HB.out | apply below_alloc | apply pw_below_drewN | apply below_drew1) | exact HB.out)⟩
                  · rw [if_neg c12] at H
                    exact absurd H (by simp)
                · rw [if_neg c10] at H
                  exact absurd H (by simp)
              · rw [if_neg c9] at H
                exact absurd H (by simp)
            · rw [if_neg c7] at H
              have c7b0 : decide (x30_2 < (wrap64 (8 * (l0.length : Int)))) = false := decide_eq_false c7
              clear c7
              simp only [Option.some.injEq, Prod.mk.injEq] at H
              obtain ⟨rfl, rfl⟩ := H
              go_wp2
              go_ret2
              exact ⟨_, by first | rfl | (simp [errW_none, errW_some] <;> rfl) | (simp [*, errW_none, errW_some] <;> rfl), by (with_reducible repeat (first | apply Kd.R_alloc | apply Kd.R_drewN | apply Kd.R_drew)); exact HO_6.out, by repeat (first | (with_reducible first | exact HB.out | apply below_alloc | apply pw_below_drewN | apply below_drew1) | exact HB.out)⟩

/-! ### dolmenref1_Bytes: function 14 -/
mutual
def dolmenref1_Bytes.j0 : Nat → List Int → Int → Bool → Option (List Int × Int)
  | 0, _, _, _ => none
  | k + 1, x0, x1, x25 => if x25 = true then (some (([] : List Int), 14)) else (dolmenref1_Bytes.l0 k x0 x1 ([] : List Int) 0)
def dolmenref1_Bytes.l0 : Nat → List Int → Int → List Int → Int → Option (List Int × Int)
  | 0, _, _, _, _ => none
  | k + 1, x0, x1, x6, x7 => if x7 < (wrap64 (8 * (x0.length : Int))) then (if 0 ≤ (wrap64 (Int.tdiv x7 8)) then (if (wrap64 (Int.tdiv x7 8)) < (x0.length : Int) then (if 0 ≤ (wrap64 (8 * (Int.tmod x7 8))) then (if x7 < x1 then (if x6.length < 140737488355328 then (dolmenref1_Bytes.l0 k x0 x1 (x6 ++ [(shr .u64 (rd x0 (wrap64 (Int.tdiv x7 8))) (wrap64 (8 * (Int.tmod x7 8)))) % 256]) (wrap64 (x7 + 1))) else (none)) else (if ((shr .u64 (rd x0 (wrap64 (Int.tdiv x7 8))) (wrap64 (8 * (Int.tmod x7 8)))) % 256) = 0 then (dolmenref1_Bytes.l0 k x0 x1 x6 (wrap64 (x7 + 1))) else (some (([] : List Int), 14)))) else (none)) else (none)) else (none)) else (some (x6, 0))
end
def dolmenref1_Bytes.f (k : Nat) (l0 : List Int) (a1 : Int) : Option (List Int × Int) := if a1 < 0 then (dolmenref1_Bytes.j0 k l0 a1 true) else (if (wrap64 (Int.tdiv (wrap64 (a1 + 7)) 8)) = (l0.length : Int) then (dolmenref1_Bytes.j0 k l0 a1 (decide (a1 > (wrap64 (8 * (l0.length : Int)))))) else (dolmenref1_Bytes.j0 k l0 a1 true))
theorem dolmenref1_Bytes.mono_l : ∀ k, (∀ y0 y1 y2, LeO (dolmenref1_Bytes.j0 k y0 y1 y2) (dolmenref1_Bytes.j0 (k + 1) y0 y1 y2)) ∧ (∀ y0 y1 y2 y3, LeO (dolmenref1_Bytes.l0 k y0 y1 y2 y3) (dolmenref1_Bytes.l0 (k + 1) y0 y1 y2 y3))
  | 0 => ⟨fun _ _ _ r h => by simp [dolmenref1_Bytes.j0] at h, fun _ _ _ _ r h => by simp [dolmenref1_Bytes.l0] at h⟩
  | k + 1 => by
    obtain ⟨ih0, ih1⟩ := dolmenref1_Bytes.mono_l k
    refine ⟨?_, ?_⟩
    · intro y0 y1 y2
      unfold dolmenref1_Bytes.j0
      repeat' first
      | (with_reducible exact ih0 _ _ _)
      | (with_reducible exact ih1 _ _ _ _)
      | (with_reducible exact LeO.refl _)
      | (with_reducible exact LeO.none _)
      | (with_reducible refine LeO.ite ?_ ?_)
      | (with_reducible refine LeO.bind ?_ (fun _ => ?_))
      | exact ih0 _ _ _
      | exact ih1 _ _ _ _
      | exact LeO.none _
      | refine LeO.ite ?_ ?_
      | refine LeO.bind ?_ (fun _ => ?_)
    · intro y0 y1 y2 y3
      unfold dolmenref1_Bytes.l0
      repeat' first
      | (with_reducible exact ih0 _ _ _)
      | (with_reducible exact ih1 _ _ _ _)
      | (with_reducible exact LeO.refl _)
      | (with_reducible exact LeO.none _)
      | (with_reducible refine LeO.ite ?_ ?_)
      | (with_reducible refine LeO.bind ?_ (fun _ => ?_))
      | exact ih0 _ _ _
      | exact ih1 _ _ _ _
      | exact LeO.none _
      | refine LeO.ite ?_ ?_
      | refine LeO.bind ?_ (fun _ => ?_)
theorem dolmenref1_Bytes.mono : ∀ a0 a1 k, LeO (dolmenref1_Bytes.f k a0 a1) (dolmenref1_Bytes.f (k + 1) a0 a1) := by
  intro a0 a1 k
  obtain ⟨ih0, ih1⟩ := dolmenref1_Bytes.mono_l k
  unfold dolmenref1_Bytes.f
  repeat' first
      | (with_reducible exact ih0 _ _ _)
      | (with_reducible exact ih1 _ _ _ _)
      | (with_reducible exact LeO.refl _)
      | (with_reducible exact LeO.none _)
      | (with_reducible refine LeO.ite ?_ ?_)
      | (with_reducible refine LeO.bind ?_ (fun _ => ?_))
      | exact ih0 _ _ _
      | exact ih1 _ _ _ _
      | exact LeO.none _
      | refine LeO.ite ?_ ?_
      | refine LeO.bind ?_ (fun _ => ?_)
set_option maxHeartbeats 8000000 in
set_option maxRecDepth 100000 in
theorem dolmenref1_Bytes.calls (k : Nat) (A0 : Option Addr) (c0 : Nat) (l0 : List Int) (a1 : Int) (r1 : List Int) (r2 : Int) (w : World) (hr0 : Kd.C (Kd.int .u64) w A0 l0.length l0) (hc0 : l0.length ≤ c0) (h : dolmenref1_Bytes.f k l0 a1 = some (r1, r2)) :
    Calls Try.prog 14 #[.slice A0 l0.length c0, .int .i64 a1] w fun e w' => ∃ v0_ : Value, e = .returned (.tuple #[v0_, .int .i64 r2]) ∧ Kd.R (Kd.int .u8) 5 w' w.heap.size (fun _ => True) v0_ r1 ∧ Below w.heap.size w w' := by
  have HR0 := Aside0.mk hr0
  have HC0 := Aside0.mk hc0
  clear hr0 hc0
  have HB := Aside0.mk (Below.refl w.heap.size w)
  have H : (if a1 < 0 then (dolmenref1_Bytes.j0 k l0 a1 true) else (if (wrap64 (Int.tdiv (wrap64 (a1 + 7)) 8)) = (l0.length : Int) then (dolmenref1_Bytes.j0 k l0 a1 (decide (a1 > (wrap64 (8 * (l0.length : Int)))))) else (dolmenref1_Bytes.j0 k l0 a1 true))) = some (r1, r2) := h
  clear h
  have HC3 := Aside0.mk H
  clear H
  go_enter Try.func14, Try.ntmps14
  go_upto_region 1 with (fail)
  go_cut [25] (fun v25 wc => ∃ (kq : Nat) (x25_2 : Bool), v25 = .bool x25_2 ∧ Aside0 (dolmenref1_Bytes.j0 kq l0 a1 x25_2 = some (r1, r2)) ∧ Aside0 (kq ≤ k) ∧ Aside0 (Below w.heap.size w wc))
  case first =>
    have H := HC3.out
    clear HC3
    by_cases c4 : a1 < 0
    · rw [if_pos c4] at H
      have c4b0 : decide (a1 < 0) = true := decide_eq_true c4
      clear c4
      (first | rw [c4b0] | (simp only [i64_w, i32_w]; rw [c4b0]) | skip)
      have H' := Aside0.mk H
      clear H
      go_wp2
      go_meet
      case rel => exact ⟨_, (true), (by first | rfl | (simp; done) | (simp [*]; done)), H', ⟨by first | omega | exact Nat.le_refl _⟩, ⟨by repeat (first | (with_reducible first | exact HB.out | apply below_alloc | apply pw_below_drewN | apply below_drew1) | exact HB.out)⟩⟩
    · rw [if_neg c4] at H
      have c4b0 : decide (a1 < 0) = false := decide_eq_false c4
      clear c4
      (first | rw [c4b0] | (simp only [i64_w, i32_w]; rw [c4b0]) | skip)
      by_cases c5 : (wrap64 (Int.tdiv (wrap64 (a1 + 7)) 8)) = (l0.length : Int)
      · rw [if_pos c5] at H
        have c5b0 : ((wrap64 (Int.tdiv (wrap64 (a1 + 7)) 8)) == (l0.length : Int)) = true := beq_iff_eq.mpr c5
        have c5b1 : ((wrap64 (Int.tdiv (wrap64 (a1 + 7)) 8)) != (l0.length : Int)) = false := bne_eq_false_iff_eq.mpr c5
        clear c5
        have H' := Aside0.mk H
        clear H
        go_wp2
        go_meet
        case rel => exact ⟨_, (decide (a1 > (wrap64 (8 * (l0.length : Int))))), (by first | rfl | (simp; done) | (simp [*]; done)), H', ⟨by first | omega | exact Nat.le_refl _⟩, ⟨by repeat (first | (with_reducible first | exact HB.out | apply below_alloc | apply pw_below_drewN | apply below_drew1) | exact HB.out)⟩⟩
      · rw [if_neg c5] at H
        have c5b0 : ((wrap64 (Int.tdiv (wrap64 (a1 + 7)) 8)) == (l0.length : Int)) = false := beq_eq_false_iff_ne.mpr c5
        have c5b1 : ((wrap64 (Int.tdiv (wrap64 (a1 + 7)) 8)) != (l0.length : Int)) = true := bne_iff_ne.mpr c5
        have H' := Aside0.mk H
        clear H
        go_wp2
        go_meet
        case rel => exact ⟨_, (true), (by first | rfl | (simp; done) | (simp [*]; done)), H', ⟨by first | omega | exact Nat.le_refl _⟩, ⟨by repeat (first | (with_reducible first | exact HB.out | apply below_alloc | apply pw_below_drewN | apply below_drew1) | exact HB.out)⟩⟩
  case rest =>
    clear HC3
    try clear c1
    try clear p2
    try clear c4
    try clear c4b0
    try clear c5
    try clear c5b0
    try clear c5b1
    obtain ⟨kq, x25_2, rfl, HA, HJ2, HB⟩ := hcut
    cases kq with
    | zero => exact absurd HA.out (by simp [dolmenref1_Bytes.j0])
    | succ kj2 =>
      have H := HA.out
      clear HA
      simp only [dolmenref1_Bytes.j0] at H
      by_cases c6 : x25_2 = true
      · subst c6
        have H1 : (some (([] : List Int), 14)) = some (r1, r2) := by rw [if_pos rfl] at H; exact H
        clear H
        have H := H1
        clear H1
        simp only [Option.some.injEq, Prod.mk.injEq] at H
        obtain ⟨rfl, rfl⟩ := H
        go_wp2
        go_ret2
        exact ⟨_, by first | rfl | (simp [errW_none, errW_some] <;> rfl) | (simp [*, errW_none, errW_some] <;> rfl), by first | exact Kd.R_nil _ _ _ _ _ | exact Kd.N_nil _ _ _ _ _ | exact Kd.V_nil _ _ _ _ _ | exact Kd.Q_nil _ _ _ _ _ | exact Kd.S_nil _ _ _ _ _, by repeat (first | (with_reducible first | exact HB.out | apply below_alloc | apply pw_below_drewN | apply below_drew1) | exact HB.out)⟩
      · replace c6 := Bool.eq_false_iff.mpr c6
        subst c6
        have H1 : (dolmenref1_Bytes.l0 kj2 l0 a1 ([] : List Int) 0) = some (r1, r2) := by rw [if_neg (show ¬ (false = true) by decide)] at H; exact H
        clear H
        have H := H1
        clear H1
        have H' := Aside0.mk H
        clear H
        go_wp2
        go_loopg [6, 7] kj2 (fun kq v6 v7 w' => ∃ (x6_2 : List Int) (x7_2 : Int), v7 = .int .i64 x7_2 ∧ Aside0 (dolmenref1_Bytes.l0 kq l0 a1 x6_2 x7_2 = some (r1, r2)) ∧ Aside0 (kq ≤ kj2) ∧ Aside0 (Kd.R (Kd.int .u8) 5 w' w.heap.size (fun _ => True) v6 x6_2) ∧ Aside0 (Below w.heap.size w w'))
        case atStart => exact ⟨(([] : List Int)), (0), (by first | rfl | (simp; done) | (simp [*]; done)), H', ⟨Nat.le_refl _⟩, ⟨by first | exact Kd.R_nil _ _ _ _ _ | exact Kd.N_nil _ _ _ _ _ | exact Kd.V_nil _ _ _ _ _ | exact Kd.Q_nil _ _ _ _ _ | exact Kd.S_nil _ _ _ _ _⟩, ⟨by repeat (first | (with_reducible first | exact HB.out | apply below_alloc | apply pw_below_drewN | apply below_drew1) | exact HB.out)⟩⟩
        case round =>
          clear H'
          try clear c1
          try clear p2
          try clear c4
          try clear c4b0
          try clear c5
          try clear c5b0
          try clear c5b1
          try clear c6
          try clear p6
          try clear p2
          obtain ⟨x6_2, x7_2, rfl, HA, HK2, HO_6, HB⟩ := hrel
          cases gk with
          | zero => exact absurd HA.out (by simp [dolmenref1_Bytes.l0])
          | succ k2 =>
            have H := HA.out
            clear HA
            simp only [dolmenref1_Bytes.l0] at H
            by_cases c7 : x7_2 < (wrap64 (8 * (l0.length : Int)))
            · rw [if_pos c7] at H
              have c7b0 : decide (x7_2 < (wrap64 (8 * (l0.length : Int)))) = true := decide_eq_true c7
              clear c7
              obtain ⟨ji8, hji8⟩ : ∃ j_ : Int, (wrap64 (Int.tdiv x7_2 8)) = j_ := ⟨_, rfl⟩
              replace H : (if 0 ≤ (ji8) then (if (ji8) < (l0.length : Int) then (if 0 ≤ (wrap64 (8 * (Int.tmod x7_2 8))) then (if x7_2 < a1 then (if x6_2.length < 140737488355328 then (dolmenref1_Bytes.l0 k2 l0 a1 (x6_2 ++ [(shr .u64 (rd l0 (ji8)) (wrap64 (8 * (Int.tmod x7_2 8)))) % 256]) (wrap64 (x7_2 + 1))) else (none)) else (if ((shr .u64 (rd l0 (ji8)) (wrap64 (8 * (Int.tmod x7_2 8)))) % 256) = 0 then (dolmenref1_Bytes.l0 k2 l0 a1 x6_2 (wrap64 (x7_2 + 1))) else (some (([] : List Int), 14)))) else (none)) else (none)) else (none)) = some (r1, r2) := by first | (rw [hji8] at H; exact H) | (simp only [hji8] at H ⊢; exact H)
              have hji8w : (IntKind.i64.wrap (Int.tdiv x7_2 8)) = ji8 := (i64_w _).trans hji8
              by_cases c9 : 0 ≤ (ji8)
              · rw [if_pos c9] at H
                have c9b0 : decide (0 ≤ (ji8)) = true := decide_eq_true c9
                clear c9
                by_cases c10 : (ji8) < (l0.length : Int)
                · rw [if_pos c10] at H
                  have c10b0 : decide ((ji8) < (l0.length : Int)) = true := decide_eq_true c10
                  clear c10
                  obtain ⟨ji11, hji11⟩ : ∃ j_ : Int, (wrap64 (8 * (Int.tmod x7_2 8))) = j_ := ⟨_, rfl⟩
                  replace H : (if 0 ≤ (ji11) then (if x7_2 < a1 then (if x6_2.length < 140737488355328 then (dolmenref1_Bytes.l0 k2 l0 a1 (x6_2 ++ [(shr .u64 (rd l0 (ji8)) (ji11)) % 256]) (wrap64 (x7_2 + 1))) else (none)) else (if ((shr .u64 (rd l0 (ji8)) (ji11)) % 256) = 0 then (dolmenref1_Bytes.l0 k2 l0 a1 x6_2 (wrap64 (x7_2 + 1))) else (some (([] : List Int), 14)))) else (none)) = some (r1, r2) := by first | (rw [hji11] at H; exact H) | (simp only [hji11] at H ⊢; exact H)
                  have hji11w : (IntKind.i64.wrap (8 * (Int.tmod x7_2 8))) = ji11 := (i64_w _).trans hji11
                  by_cases c12 : 0 ≤ (ji11)
                  · rw [if_pos c12] at H
                    have c12b0 := eq_true c12
                    have c12b1 : decide (0 ≤ (ji11)) = true := decide_eq_true c12
                    clear c12
                    obtain ⟨ji13, hji13⟩ : ∃ j_ : Int, (shr .u64 (rd l0 (ji8)) (ji11)) = j_ := ⟨_, rfl⟩
                    replace H : (if x7_2 < a1 then (if x6_2.length < 140737488355328 then (dolmenref1_Bytes.l0 k2 l0 a1 (x6_2 ++ [(ji13) % 256]) (wrap64 (x7_2 + 1))) else (none)) else (if ((ji13) % 256) = 0 then (dolmenref1_Bytes.l0 k2 l0 a1 x6_2 (wrap64 (x7_2 + 1))) else (some (([] : List Int), 14)))) = some (r1, r2) := by first | (rw [hji13] at H; exact H) | (simp only [hji13] at H ⊢; exact H)
                    have hji13_ : ((rd l0 (ji8)) / 2 ^ min (ji11).toNat 64) = ji13 := hji13
                    have hji13z : (ji11) ≤ 64 → ((rd l0 (ji8)) / 2 ^ (ji11).toNat) = ji13 := shr_small hji13
                    by_cases c14 : x7_2 < a1
                    · rw [if_pos c14] at H
                      have c14b0 : decide (x7_2 < a1) = true := decide_eq_true c14
                      clear c14
                      by_cases c15 : x6_2.length < 140737488355328
                      · rw [if_pos c15] at H
                        have LMc15 := Aside0.mk c15
                        clear c15
                        obtain ⟨y132, hy132⟩ : ∃ y_ : List Int, y_ = (x6_2 ++ [(ji13) % 256]) := ⟨_, rfl⟩
                        replace H : (dolmenref1_Bytes.l0 k2 l0 a1 y132 (wrap64 (x7_2 + 1))) = some (r1, r2) := by first | (rw [hy132]; with_reducible exact H) | (have H2_ := (Option.bind_some _ _).symm.trans H; rw [hy132]; with_reducible exact H2_) | (have H2_ := (Option.bind_some _ _).symm.trans H; with_reducible exact H2_) | with_reducible exact H | (rw [hy132]; exact H) | exact H
                        have Ny132 := Aside0.mk hy132
                        clear hy132
                        have H' := Aside0.mk H
                        clear H
                        have p131 : 0 ≤ ((ji8) : Int) := of_decide_eq_true (by first | (with_reducible assumption) | assumption)
                        have q131 : (ji8) < (l0.length : Int) := of_decide_eq_true (by first | (with_reducible assumption) | assumption)
                        obtain ⟨ad131, e131, hx131_0⟩ := Kd.at_int HR0.out (ji8) p131 q131
                        cases e131
                        replace hx131_0 := (HB.out.cell (World.block_lt_of_cell? w _ hx131_0)).trans hx131_0
                        replace p131 := eq_true p131
                        replace q131 := eq_true q131
                        go_wp2_with (first | ((with_reducible refine gate_builtin (b := .append) (xs := #[.tmp 46, .tmp 48]) rfl ?_); (try (refine gate_guard (by rfl) ?_; dsimp only)); at_builtin; refine Kd.R_append (Kd.int .u8) (w0 := w) w.heap.size rfl (.tmp 46) (.tmp 48) 27 5 (.int .u8 0) 1 rfl Try.underlying27 info5 rfl (by decide) (by omega) u6 x6_2 ((ji13) % 256) [.int .u8 ((ji13) % 256)] (fun _ => True) (fun _ => False) rfl rfl ?aP (fun _ hk => hk.elim) ?aF ?aO ?aB ?aS ?aL ?_; (case aP => exact rfl); (case aB => exact (by repeat (first | (with_reducible first | exact HB.out | apply below_alloc | apply pw_below_drewN | apply below_drew1) | exact HB.out))); (case aF => exact (fun _ _ => trivial)); (case aO => exact (by (with_reducible repeat (first | apply Kd.R_alloc | apply Kd.R_drewN | apply Kd.R_drew)); exact HO_6.out)); (case aS => exact (below_size (by repeat (first | (with_reducible first | exact HB.out | apply below_alloc | apply pw_below_drewN | apply below_drew1) | exact HB.out)))); (case aL => have := LMc15.out; omega); intro v133 w16 ho hb hg hat; rw [← Ny132.out] at ho; have n0_ := Aside0.mk (hb); have n1_ := Aside0.mk (ho); clear HB; clear HO_6; have HB := n0_; have HO134 := n1_; clear n0_ n1_; clear ho hb hg hat))
                        go_roundg k2
                        case measure => have := HJ2.out; have := HK2.out; omega
                        case rel => exact ⟨(y132), (wrap64 (x7_2 + 1)), (by first | rfl | (simp; done) | (simp [*]; done)), H', ⟨by have := HJ2.out; have := HK2.out; omega⟩, ⟨by (with_reducible repeat (first | apply Kd.R_alloc | apply Kd.R_drewN | apply Kd.R_drew)); exact HO134.out⟩, ⟨by repeat (first | (with_reducible first | exact HB.out | apply below_alloc | apply pw_below_drewN | apply below_drew1) | exact HB.out)⟩⟩
                      · rw [if_neg c15] at H
                        exact absurd H (by simp)
                    · rw [if_neg c14] at H
                      have c14b0 : decide (x7_2 < a1) = false := decide_eq_false c14
                      clear c14
                      by_cases c17 : ((ji13) % 256) = 0
                      · rw [if_pos c17] at H
                        have c17b0 : (((ji13) % 256) == 0) = true := beq_iff_eq.mpr c17
                        have c17b1 : (((ji13) % 256) != 0) = false := bne_eq_false_iff_eq.mpr c17
                        clear c17
                        have H' := Aside0.mk H
                        clear H
                        have p131 : 0 ≤ ((ji8) : Int) := of_decide_eq_true (by first | (with_reducible assumption) | assumption)
                        have q131 : (ji8) < (l0.length : Int) := of_decide_eq_true (by first | (with_reducible assumption) | assumption)
                        obtain ⟨ad131, e131, hx131_0⟩ := Kd.at_int HR0.out (ji8) p131 q131
                        cases e131
                        replace hx131_0 := (HB.out.cell (World.block_lt_of_cell? w _ hx131_0)).trans hx131_0
                        replace p131 := eq_true p131
                        replace q131 := eq_true q131
                        go_wp2
                        go_roundg k2
                        case measure => have := HJ2.out; have := HK2.out; omega
                        case rel => exact ⟨(x6_2), (wrap64 (x7_2 + 1)), (by first | rfl | (simp; done) | (simp [*]; done)), H', ⟨by have := HJ2.out; have := HK2.out; omega⟩, ⟨by (with_reducible repeat (first | apply Kd.R_alloc | apply Kd.R_drewN | apply Kd.R_drew)); exact HO_6.out⟩, ⟨by repeat (first | (with_reducible first | exact HB.out | apply below_alloc | apply pw_below_drewN | apply below_drew1) | exact HB.out)⟩⟩
                      · rw [if_neg c17] at H
                        have c17b0 : (((ji13) % 256) == 0) = false := beq_eq_false_iff_ne.mpr c17
                        have c17b1 : (((ji13) % 256) != 0) = true := bne_iff_ne.mpr c17
                        simp only [Option.some.injEq, Prod.mk.injEq] at H
                        obtain ⟨rfl, rfl⟩ := H
                        have p131 : 0 ≤ ((ji8) : Int) := of_decide_eq_true (by first | (with_reducible assumption) | assumption)
                        have q131 : (ji8) < (l0.length : Int) := of_decide_eq_true (by first | (with_reducible assumption) | assumption)
                        obtain ⟨ad131, e131, hx131_0⟩ := Kd.at_int HR0.out (ji8) p131 q131
                        cases e131
                        replace hx131_0 := (HB.out.cell (World.block_lt_of_cell? w _ hx131_0)).trans hx131_0
                        replace p131 := eq_true p131
                        replace q131 := eq_true q131
                        go_wp2
                        go_ret2
                        exact ⟨_, by first | rfl | (simp [errW_none, errW_some] <;> rfl) | (simp only [← hji8, ← hji11, ← hji13]; first | rfl | (simp [errW_none, errW_some] <;> rfl)) | (simp [*, errW_none, errW_some] <;> rfl), by first | exact Kd.R_nil _ _ _ _ _ | exact Kd.N_nil _ _ _ _ _ | exact Kd.V_nil _ _ _ _ _ | exact Kd.Q_nil _ _ _ _ _ | exact Kd.S_nil _ _ _ _ _, by repeat (first | (with_reducible first | exact HB.out | apply below_alloc | apply pw_below_drewN | apply below_drew1) | exact HB.out)⟩
                  · rw [if_neg c12] at H
                    exact absurd H (by simp)
                · rw [if_neg c10] at H
                  exact absurd H (by simp)
              · rw [if_neg c9] at H
                exact absurd H (by simp)
            · rw [if_neg c7] at H
              have c7b0 : decide (x7_2 < (wrap64 (8 * (l0.length : Int)))) = false := decide_eq_false c7
              clear c7
              simp only [Option.some.injEq, Prod.mk.injEq] at H
              obtain ⟨rfl, rfl⟩ := H
              go_wp2
              go_ret2
              exact ⟨_, by first | rfl | (simp [errW_none, errW_some] <;> rfl) | (simp [*, errW_none, errW_some] <;> rfl), by (with_reducible repeat (first | apply Kd.R_alloc | apply Kd.R_drewN | apply Kd.R_drew)); exact HO_6.out, by repeat (first | (with_reducible first | exact HB.out | apply below_alloc | apply pw_below_drewN | apply below_drew1) | exact HB.out)⟩

/-! ### dolmenalike_Code: function 15 -/

section
open Go.Extern.Stop Go.Stop Go.Extern
theorem isTypeOf (v : Value) (w : World) : (Extern.ReflectliteType.typeOf #[.iface 51 v]).run Try.prog w = .ok (.iface 58 (.agg #[.pointer (some ⟨0, 51, none⟩)])) w := by kernel_rfl
def cmpM : Array Value → Sem Value := Extern.ReflectliteType.method fun t => do Go.Extern.Rtype.noPackHeld "Comparable" t; pure (.bool (← typeInfo t).comparable)
theorem isComparable (w : World) : (cmpM #[.agg #[.pointer (some ⟨0, 51, none⟩)]]).run Try.prog w = .ok (.bool true) w := by kernel_rfl
theorem isMethodComparable (v : Value) (w : World) : (Go.method 202 58 v "Comparable").run Try.prog w = .ok (50, v) w := by kernel_rfl
theorem isComp : (Try.prog.info? 51).map (·.comparable) = some true := by kernel_rfl
theorem noIsE (v : Value) (xT : TypeId) (w : World) : (Instr.typeAssert (.iface 51 v) xT 60 true).run Try.prog w = .ok (.tuple #[.nilIface, .bool false]) w := run_typeAssert_lacksB Try.underlying60 (by kernel_rfl) (by kernel_rfl) v xT w
theorem noUnwrapE (v : Value) (xT : TypeId) (w : World) : (Instr.typeAssert (.iface 51 v) xT 63 true).run Try.prog w = .ok (.tuple #[.nilIface, .bool false]) w := run_typeAssert_lacksB Try.underlying63 (by kernel_rfl) (by kernel_rfl) v xT w
theorem noUnwrapsE (v : Value) (xT : TypeId) (w : World) : (Instr.typeAssert (.iface 51 v) xT 65 true).run Try.prog w = .ok (.tuple #[.nilIface, .bool false]) w := run_typeAssert_lacksB Try.underlying65 (by kernel_rfl) (by kernel_rfl) v xT w

/-- errors.Is of two numbers of the type api.Errno: whether they are the same. -/
theorem is_num (a b : Int) (w : World) :
    Calls Try.prog 28 #[.iface 51 (.int .i64 a), .iface 51 (.int .i64 b)] w fun e w' => e = .returned (.bool (a == b)) ∧ w' = w := by
  have h8 := @run_callFunc_extern Try.prog 29 _ Extern.ReflectliteType.typeOf Try.func29 (by kernel_rfl) (by kernel_rfl) (by kernel_rfl) (by kernel_rfl)
  have h32 := @run_callFunc_extern Try.prog 50 _ cmpM Try.func50 (by kernel_rfl) (by kernel_rfl) (by kernel_rfl) (by kernel_rfl)
  have tT := isTypeOf
  have cT := isComparable
  have mR := isMethodComparable
  have nE := noIsE
  have uE := noUnwrapE
  have vE := noUnwrapsE
  have heq := Go.Lib.run_eql_iface_int (P := Try.prog) w (k := .i64) a b Try.underlying33 isComp Try.underlying51
  by_cases hab : (a == b) = true
  · rw [hab] at heq ⊢
    go_enter Try.func28, Try.ntmps28
    go_wp2
    refine wp_loop_rounds 1 ?_
    rw [rounds_succ]
    go_wp2
    go_ret
    exact ⟨rfl, rfl⟩
  · have hab' : (a == b) = false := by simpa using hab
    rw [hab'] at heq ⊢
    clear hab
    go_enter Try.func28, Try.ntmps28
    go_wp2
    refine wp_loop_rounds 1 ?_
    rw [rounds_succ]
    go_wp2
    go_ret
    exact ⟨rfl, rfl⟩

def codeOf (c : Int) : Int := if 1 ≤ c ∧ c ≤ 19 then c else -1
def dolmenalike_Code.f (a0 : Option Int) : Option Int := some (match a0 with | none => 0 | some c => codeOf c)
theorem code_num (c : Int) (w : World) :
    Calls Try.prog 15 #[.iface 51 (.int .i64 c)] w fun e w' => e = .returned (.int .i64 (codeOf c)) ∧ w' = w := by
  have hn := run_eql_held_nil (P := Try.prog) w 33 51 (.int .i64 c) (by rw [Try.underlying33]; rfl)
  go_enter Try.func15, Try.ntmps15
  go_wp2
  go_loop [3] (fun k => ∃ n : Int, 1 ≤ n ∧ n ≤ 20 ∧ k = .int .i64 n ∧ Hid (∀ j : Int, 1 ≤ j → j < n → j ≠ c)) (fun k => 20 - (intOf k).toNat)
  case atStart => exact ⟨1, by omega, by omega, rfl, Lib.hid (fun j h1 h2 => by omega)⟩
  case round =>
    obtain ⟨n, h1, h20, rfl, HJ⟩ := hrel
    by_cases hlt : n ≤ 19
    · by_cases hc : c = n
      · have H19 : codeOf n = n := if_pos ⟨h1, hlt⟩
        subst hc
        go_wp2_with (go_at_call 28; refine (is_num _ _ _).mono ?_; rintro e w' ⟨rfl, rfl⟩)
        go_ret
        exact ⟨congrArg (fun x => Ending.returned (.int .i64 x)) H19.symm, rfl⟩
      · have hf : (c == n) = false := by simpa using hc
        have HC := Lib.hid hc
        clear hc
        go_wp2_with (go_at_call 28; refine (is_num _ _ _).mono ?_; rintro e w' ⟨rfl, rfl⟩)
        go_round
        case rel => exact ⟨n + 1, by omega, by omega, by go_num, Lib.hid (fun j a b => by by_cases e : j = n; exact e ▸ fun h => HC.out h.symm; exact HJ.out j a (by omega))⟩
        case measure => simp [intOf]; omega
    · have H20 : codeOf c = -1 := if_neg (fun h => HJ.out c h.1 (by omega) rfl)
      go_wp2
      go_ret
      exact ⟨rfl, rfl⟩
theorem dolmenalike_Code.calls (a0 : Option Int) (r : Int) (w : World) (h : dolmenalike_Code.f a0 = some r) :
    Calls Try.prog 15 #[errW a0] w fun e w' => e = .returned (.int .i64 r) ∧ Drawn0 w w' := by
  cases a0 with
  | none =>
    obtain rfl := Option.some.inj h
    have hn := run_eql_nil_nil (P := Try.prog) w 33 (by rw [Try.underlying33]; rfl)
    rw [errW_none]
    go_enter Try.func15, Try.ntmps15
    go_wp2
    go_ret
    exact ⟨rfl, ⟨0, rfl⟩⟩
  | some c =>
    obtain rfl := Option.some.inj h
    rw [errW_some]
    exact (code_num c w).mono fun e w' h => ⟨h.1, ⟨0, h.2⟩⟩
end

/-! ### dolmenref9_Words: function 16 -/
def dolmenref9_Words.l0 : Nat → List Int → List Int → Int → Option (Bool)
  | 0, _, _, _ => none
  | k + 1, x0, x1, x5 => if x5 < (x0.length : Int) then (if 0 ≤ x5 then (if x5 < (x1.length : Int) then (if (rd x0 x5) = (rd x1 x5) then (dolmenref9_Words.l0 k x0 x1 (wrap64 (x5 + 1))) else (some false)) else (none)) else (none)) else (some true)
def dolmenref9_Words.f (k : Nat) (l0 : List Int) (l1 : List Int) : Option (Bool) := if (l0.length : Int) = (l1.length : Int) then (dolmenref9_Words.l0 k l0 l1 0) else (some false)
theorem dolmenref9_Words.mono_l : ∀ k, (∀ y0 y1 y2, LeO (dolmenref9_Words.l0 k y0 y1 y2) (dolmenref9_Words.l0 (k + 1) y0 y1 y2))
  | 0 => fun _ _ _ r h => by simp [dolmenref9_Words.l0] at h
  | k + 1 => by
    have ih0 := dolmenref9_Words.mono_l k
    · intro y0 y1 y2
      unfold dolmenref9_Words.l0
      repeat' first
      | (with_reducible exact ih0 _ _ _)
      | (with_reducible exact LeO.refl _)
      | (with_reducible exact LeO.none _)
      | (with_reducible refine LeO.ite ?_ ?_)
      | (with_reducible refine LeO.bind ?_ (fun _ => ?_))
      | exact ih0 _ _ _
      | exact LeO.none _
      | refine LeO.ite ?_ ?_
      | refine LeO.bind ?_ (fun _ => ?_)
theorem dolmenref9_Words.mono : ∀ a0 a1 k, LeO (dolmenref9_Words.f k a0 a1) (dolmenref9_Words.f (k + 1) a0 a1) := by
  intro a0 a1 k
  have ih0 := dolmenref9_Words.mono_l k
  unfold dolmenref9_Words.f
  repeat' first
      | (with_reducible exact ih0 _ _ _)
      | (with_reducible exact LeO.refl _)
      | (with_reducible exact LeO.none _)
      | (with_reducible refine LeO.ite ?_ ?_)
      | (with_reducible refine LeO.bind ?_ (fun _ => ?_))
      | exact ih0 _ _ _
      | exact LeO.none _
      | refine LeO.ite ?_ ?_
      | refine LeO.bind ?_ (fun _ => ?_)
set_option maxHeartbeats 8000000 in
set_option maxRecDepth 100000 in
theorem dolmenref9_Words.calls (k : Nat) (A0 : Option Addr) (c0 : Nat) (l0 : List Int) (A1 : Option Addr) (c1 : Nat) (l1 : List Int) (r : Bool) (w : World) (hr0 : Kd.C (Kd.int .u64) w A0 l0.length l0) (hc0 : l0.length ≤ c0) (hr1 : Kd.C (Kd.int .u64) w A1 l1.length l1) (hc1 : l1.length ≤ c1) (h : dolmenref9_Words.f k l0 l1 = some r) :
    Calls Try.prog 16 #[.slice A0 l0.length c0, .slice A1 l1.length c1] w fun e w' => e = .returned (.bool r) ∧ Drawn0 w w' := by
  have HR0 := Aside0.mk hr0
  have HC0 := Aside0.mk hc0
  clear hr0 hc0
  have HR1 := Aside0.mk hr1
  have HC1 := Aside0.mk hc1
  clear hr1 hc1
  have H : (if (l0.length : Int) = (l1.length : Int) then (dolmenref9_Words.l0 k l0 l1 0) else (some false)) = some r := h
  clear h
  by_cases c3 : (l0.length : Int) = (l1.length : Int)
  · rw [if_pos c3] at H
    have c3b0 : ((l0.length : Int) == (l1.length : Int)) = true := beq_iff_eq.mpr c3
    have c3b1 : ((l0.length : Int) != (l1.length : Int)) = false := bne_eq_false_iff_eq.mpr c3
    have c3b2 : (l0.length == l1.length) = true := by first | simpa using c3 | (simp at c3 ⊢; omega)
    clear c3
    have H' := Aside0.mk H
    clear H
    go_enter Try.func16, Try.ntmps16
    go_wp2
    repeat (go_quiet (fail); try go_wp2)
    go_loopg [5] k (fun kq v5 w' => ∃ (x5_1 : Int), v5 = .int .i64 x5_1 ∧ Aside0 (dolmenref9_Words.l0 kq l0 l1 x5_1 = some r) ∧ Aside0 (kq ≤ k) ∧ Drawn0 w w')
    case atStart => exact ⟨(0), (by first | rfl | (simp; done) | (simp [*]; done)), H', ⟨Nat.le_refl _⟩, by repeat (first | exact Drawn0.refl _ | apply Drawn0.step)⟩
    case round =>
      clear H'
      try clear c1
      try clear p2
      try clear c3
      try clear c3b0
      try clear c3b1
      try clear c3b2
      obtain ⟨x5_1, rfl, HA, HK1, ⟨m1, rfl⟩⟩ := hrel
      cases gk with
      | zero => exact absurd HA.out (by simp [dolmenref9_Words.l0])
      | succ k1 =>
        have H := HA.out
        clear HA
        simp only [dolmenref9_Words.l0] at H
        by_cases c4 : x5_1 < (l0.length : Int)
        · rw [if_pos c4] at H
          have c4b0 : decide (x5_1 < (l0.length : Int)) = true := decide_eq_true c4
          clear c4
          by_cases c5 : 0 ≤ x5_1
          · rw [if_pos c5] at H
            have c5b0 : decide (0 ≤ x5_1) = true := decide_eq_true c5
            clear c5
            by_cases c6 : x5_1 < (l1.length : Int)
            · rw [if_pos c6] at H
              have c6b0 : decide (x5_1 < (l1.length : Int)) = true := decide_eq_true c6
              clear c6
              by_cases c7 : (rd l0 x5_1) = (rd l1 x5_1)
              · rw [if_pos c7] at H
                have c7b0 : ((rd l0 x5_1) == (rd l1 x5_1)) = true := beq_iff_eq.mpr c7
                have c7b1 : ((rd l0 x5_1) != (rd l1 x5_1)) = false := bne_eq_false_iff_eq.mpr c7
                clear c7
                have H' := Aside0.mk H
                clear H
                have p135 : 0 ≤ (x5_1 : Int) := of_decide_eq_true (by first | (with_reducible assumption) | assumption)
                have q135 : x5_1 < (l0.length : Int) := of_decide_eq_true (by first | (with_reducible assumption) | assumption)
                obtain ⟨ad135, e135, hx135_0⟩ := Kd.at_int HR0.out x5_1 p135 q135
                cases e135
                replace p135 := eq_true p135
                replace q135 := eq_true q135
                have p136 : 0 ≤ (x5_1 : Int) := of_decide_eq_true (by first | (with_reducible assumption) | assumption)
                have q136 : x5_1 < (l1.length : Int) := of_decide_eq_true (by first | (with_reducible assumption) | assumption)
                obtain ⟨ad136, e136, hx136_0⟩ := Kd.at_int HR1.out x5_1 p136 q136
                cases e136
                replace p136 := eq_true p136
                replace q136 := eq_true q136
                go_wp2
                repeat (go_quiet (fail); try go_wp2)
                go_roundg k1
                case measure => have := HK1.out; omega
                case rel => exact ⟨(wrap64 (x5_1 + 1)), (by first | rfl | (simp; done) | (simp [*]; done)), H', ⟨by have := HK1.out; omega⟩, by repeat (first | exact Drawn0.refl _ | apply Drawn0.step)⟩
              · rw [if_neg c7] at H
                have c7b0 : ((rd l0 x5_1) == (rd l1 x5_1)) = false := beq_eq_false_iff_ne.mpr c7
                have c7b1 : ((rd l0 x5_1) != (rd l1 x5_1)) = true := bne_iff_ne.mpr c7
                obtain rfl := Option.some.inj H
                have p135 : 0 ≤ (x5_1 : Int) := of_decide_eq_true (by first | (with_reducible assumption) | assumption)
                have q135 : x5_1 < (l0.length : Int) := of_decide_eq_true (by first | (with_reducible assumption) | assumption)
                obtain ⟨ad135, e135, hx135_0⟩ := Kd.at_int HR0.out x5_1 p135 q135
                cases e135
                replace p135 := eq_true p135
                replace q135 := eq_true q135
                have p136 : 0 ≤ (x5_1 : Int) := of_decide_eq_true (by first | (with_reducible assumption) | assumption)
                have q136 : x5_1 < (l1.length : Int) := of_decide_eq_true (by first | (with_reducible assumption) | assumption)
                obtain ⟨ad136, e136, hx136_0⟩ := Kd.at_int HR1.out x5_1 p136 q136
                cases e136
                replace p136 := eq_true p136
                replace q136 := eq_true q136
                go_wp2
                repeat (go_quiet (fail); try go_wp2)
                go_ret
                exact ⟨by first | rfl | (simp; done) | (simp [*]; done), by repeat (first | exact Drawn0.refl _ | apply Drawn0.step)⟩
            · rw [if_neg c6] at H
              exact absurd H (by simp)
          · rw [if_neg c5] at H
            exact absurd H (by simp)
        · rw [if_neg c4] at H
          have c4b0 : decide (x5_1 < (l0.length : Int)) = false := decide_eq_false c4
          clear c4
          obtain rfl := Option.some.inj H
          go_wp2
          repeat (go_quiet (fail); try go_wp2)
          go_ret
          exact ⟨by first | rfl | (simp; done) | (simp [*]; done), by repeat (first | exact Drawn0.refl _ | apply Drawn0.step)⟩
  · rw [if_neg c3] at H
    have c3b0 : ((l0.length : Int) == (l1.length : Int)) = false := beq_eq_false_iff_ne.mpr c3
    have c3b1 : ((l0.length : Int) != (l1.length : Int)) = true := bne_iff_ne.mpr c3
    have c3b2 : (l0.length == l1.length) = false := by first | simpa using c3 | (simp at c3 ⊢; omega)
    obtain rfl := Option.some.inj H
    go_enter Try.func16, Try.ntmps16
    go_wp2
    repeat (go_quiet (fail); try go_wp2)
    go_ret
    exact ⟨by first | rfl | (simp; done) | (simp [*]; done), by repeat (first | exact Drawn0.refl _ | apply Drawn0.step)⟩

end Go.Proofs.Ytfonkhikdaegpaa.PBitsAsks
