/- Functions of the given program told as plain Lean functions, and that the code does what they tell: written by a program of this session over the print of the kit, with some contracts proved by hand. Conditions: those typed at each theorem. -/
import Derived.Test.YtfonkhikdaegpaaPBitsBackx0
import Derived.Test.YtfonkhikdaegpaaPBitsBackx1
namespace Go.Proofs.Ytfonkhikdaegpaa.PBitsBack
open Go.RowKit Go.Proofs.YtfonkhikdaegpaaW.PrintWords Go.Proofs.YtfonkhikdaegpaaW.PrintLast Go.Proofs.YtfonkhikdaegpaaW.PrintMore
attribute [local go_sem] max2_int min2_int max_two min_two max_three min_three max_four min_four   -- for this text's walks alone
set_option linter.unusedVariables false
set_option linter.unusedSimpArgs false

/-! ### bits_Bytes: function 13 -/
mutual
def bits_Bytes.j0 : Nat → List Int → Int → Bool → Option (List Int × Option Int)
  | 0, _, _, _ => none
  | k + 1, x0, x1, x25 => if x25 = true then (some (([] : List Int), some 14)) else (bits_Bytes.l0 k x0 x1 ([] : List Int) (wrap64 (8 * (x0.length : Int))) 0)
def bits_Bytes.l0 : Nat → List Int → Int → List Int → Int → Int → Option (List Int × Option Int)
  | 0, _, _, _, _, _ => none
  | k + 1, x0, x1, x6, x29, x30 => if x30 < x29 then (if 0 ≤ (wrap64 (Int.tdiv x30 8)) then (if (wrap64 (Int.tdiv x30 8)) < (x0.length : Int) then (if 0 ≤ (wrap64 (8 * (Int.tmod x30 8))) then (if x30 < x1 then (if x6.length < 140737488355328 then (bits_Bytes.l0 k x0 x1 (x6 ++ [(shr .u64 (rd x0 (wrap64 (Int.tdiv x30 8))) (wrap64 (8 * (Int.tmod x30 8)))) % 256]) x29 (wrap64 (x30 + 1))) else (none)) else (if ((shr .u64 (rd x0 (wrap64 (Int.tdiv x30 8))) (wrap64 (8 * (Int.tmod x30 8)))) % 256) = 0 then (bits_Bytes.l0 k x0 x1 x6 x29 (wrap64 (x30 + 1))) else (some (([] : List Int), some 14)))) else (none)) else (none)) else (none)) else (some (x6, none))
end
def bits_Bytes.f (k : Nat) (l0 : List Int) (a1 : Int) : Option (List Int × Option Int) := if a1 < 0 then (bits_Bytes.j0 k l0 a1 true) else (if a1 > (wrap64 (8 * (l0.length : Int))) then (bits_Bytes.j0 k l0 a1 true) else (bits_Bytes.j0 k l0 a1 (decide ((wrap64 ((wrap64 (8 * (l0.length : Int))) - a1)) ≥ 8))))
theorem bits_Bytes.mono_l : ∀ k, (∀ y0 y1 y2, LeO (bits_Bytes.j0 k y0 y1 y2) (bits_Bytes.j0 (k + 1) y0 y1 y2)) ∧ (∀ y0 y1 y2 y3 y4, LeO (bits_Bytes.l0 k y0 y1 y2 y3 y4) (bits_Bytes.l0 (k + 1) y0 y1 y2 y3 y4))
  | 0 => ⟨fun _ _ _ r h => by simp [bits_Bytes.j0] at h, fun _ _ _ _ _ r h => by simp [bits_Bytes.l0] at h⟩
  | k + 1 => by
    obtain ⟨ih0, ih1⟩ := bits_Bytes.mono_l k
    refine ⟨?_, ?_⟩
    · intro y0 y1 y2
      unfold bits_Bytes.j0
      repeat' first
      | (with_reducible exact ih0 _ _ _)
      | (with_reducible exact ih1 _ _ _ _ _)
      | (with_reducible exact LeO.refl _)
      | (with_reducible exact LeO.none _)
      | (with_reducible refine LeO.ite ?_ ?_)
      | (with_reducible refine LeO.bind ?_ (fun _ => ?_))
      | exact ih0 _ _ _
      | exact ih1 _ _ _ _ _
      | exact LeO.none _
      | refine LeO.ite ?_ ?_
      | refine LeO.bind ?_ (fun _ => ?_)
    · intro y0 y1 y2 y3 y4
      unfold bits_Bytes.l0
      repeat' first
      | (with_reducible exact ih0 _ _ _)
      | (with_reducible exact ih1 _ _ _ _ _)
      | (with_reducible exact LeO.refl _)
      | (with_reducible exact LeO.none _)
      | (with_reducible refine LeO.ite ?_ ?_)
      | (with_reducible refine LeO.bind ?_ (fun _ => ?_))
      | exact ih0 _ _ _
      | exact ih1 _ _ _ _ _
      | exact LeO.none _
      | refine LeO.ite ?_ ?_
      | refine LeO.bind ?_ (fun _ => ?_)
theorem bits_Bytes.mono : ∀ a0 a1 k, LeO (bits_Bytes.f k a0 a1) (bits_Bytes.f (k + 1) a0 a1) := by
  intro a0 a1 k
  obtain ⟨ih0, ih1⟩ := bits_Bytes.mono_l k
  unfold bits_Bytes.f
  repeat' first
      | (with_reducible exact ih0 _ _ _)
      | (with_reducible exact ih1 _ _ _ _ _)
      | (with_reducible exact LeO.refl _)
      | (with_reducible exact LeO.none _)
      | (with_reducible refine LeO.ite ?_ ?_)
      | (with_reducible refine LeO.bind ?_ (fun _ => ?_))
      | exact ih0 _ _ _
      | exact ih1 _ _ _ _ _
      | exact LeO.none _
      | refine LeO.ite ?_ ?_
      | refine LeO.bind ?_ (fun _ => ?_)
set_option maxHeartbeats 8000000 in
set_option maxRecDepth 100000 in
theorem bits_Bytes.calls (k : Nat) (A0 : Option Addr) (c0 : Nat) (l0 : List Int) (a1 : Int) (r1 : List Int) (r2 : Option Int) (w : World) (hr0 : Kd.C (Kd.int .u64) w A0 l0.length l0) (hc0 : l0.length ≤ c0) (h : bits_Bytes.f k l0 a1 = some (r1, r2)) :
    Calls Try.prog 13 #[.slice A0 l0.length c0, .int .i64 a1] w fun e w' => ∃ v0_ : Value, e = .returned (.tuple #[v0_, errW r2]) ∧ Kd.R (Kd.int .u8) 5 w' w.heap.size (fun _ => True) v0_ r1 ∧ Below w.heap.size w w' := by
  have hu33 := Try.underlying33
  have hu51 := Try.underlying51
  have HR0 := Aside0.mk hr0
  have HC0 := Aside0.mk hc0
  clear hr0 hc0
  have HB := Aside0.mk (Below.refl w.heap.size w)
  have H : (if a1 < 0 then (bits_Bytes.j0 k l0 a1 true) else (if a1 > (wrap64 (8 * (l0.length : Int))) then (bits_Bytes.j0 k l0 a1 true) else (bits_Bytes.j0 k l0 a1 (decide ((wrap64 ((wrap64 (8 * (l0.length : Int))) - a1)) ≥ 8))))) = some (r1, r2) := h
  clear h
  have HC3 := Aside0.mk H
  clear H
  go_enter Try.func13, Try.ntmps13
  go_upto_region 1 with (fail)
  go_cut [25] (fun v25 wc => ∃ (kq : Nat) (x25_2 : Bool), v25 = .bool x25_2 ∧ Aside0 (bits_Bytes.j0 kq l0 a1 x25_2 = some (r1, r2)) ∧ Aside0 (kq ≤ k) ∧ Aside0 (Below w.heap.size w wc))
  case first =>
    have H := HC3.out
    clear HC3
    by_cases c4 : a1 < 0
    · rw [if_pos c4] at H
      have c4b0 : decide (a1 < 0) = true := decide_eq_true c4
      clear c4
      (first | rw [c4b0] | (simp only [i64_w, i32_w]; rw [c4b0]) | skip)
      have H' := Aside0.mk H
      clear H
      go_wp2
      go_meet
      case rel => exact ⟨_, (true), (by first | rfl | (simp; done) | (simp [*]; done)), H', ⟨by first | omega | exact Nat.le_refl _⟩, ⟨by repeat (first | (with_reducible first | exact HB.out | apply below_alloc | apply pw_below_drewN | apply below_drew1) | exact HB.out)⟩⟩
    · rw [if_neg c4] at H
      have c4b0 : decide (a1 < 0) = false := decide_eq_false c4
      clear c4
      (first | rw [c4b0] | (simp only [i64_w, i32_w]; rw [c4b0]) | skip)
      by_cases c5 : a1 > (wrap64 (8 * (l0.length : Int)))
      · rw [if_pos c5] at H
        have c5b0 : decide ((wrap64 (8 * (l0.length : Int))) < a1) = true := decide_eq_true c5
        clear c5
        have H' := Aside0.mk H
        clear H
        go_wp2
        go_meet
        case rel => exact ⟨_, (true), (by first | rfl | (simp; done) | (simp [*]; done)), H', ⟨by first | omega | exact Nat.le_refl _⟩, ⟨by repeat (first | (with_reducible first | exact HB.out | apply below_alloc | apply pw_below_drewN | apply below_drew1) | exact HB.out)⟩⟩
      · rw [if_neg c5] at H
        have c5b0 : decide ((wrap64 (8 * (l0.length : Int))) < a1) = false := decide_eq_false c5
        clear c5
        have H' := Aside0.mk H
        clear H
        go_wp2
        go_meet
        case rel => exact ⟨_, (decide ((wrap64 ((wrap64 (8 * (l0.length : Int))) - a1)) ≥ 8)), (by first | rfl | (simp; done) | (simp [*]; done)), H', ⟨by first | omega | exact Nat.le_refl _⟩, ⟨by repeat (first | (with_reducible first | exact HB.out | apply below_alloc | apply pw_below_drewN | apply below_drew1) | exact HB.out)⟩⟩
  case rest =>
    clear HC3
    try clear c1
    try clear p2
    try clear c4
    try clear c4b0
    try clear c5
    try clear c5b0
    obtain ⟨kq, x25_2, rfl, HA, HJ2, HB⟩ := hcut
    cases kq with
    | zero => exact absurd HA.out (by simp [bits_Bytes.j0])
    | succ kj2 =>
      have H := HA.out
      clear HA
      simp only [bits_Bytes.j0] at H
      by_cases c6 : x25_2 = true
      · subst c6
        have H1 : (some (([] : List Int), some 14)) = some (r1, r2) := by rw [if_pos rfl] at H; exact H
        clear H
        have H := H1
        clear H1
        simp only [Option.some.injEq, Prod.mk.injEq] at H
        obtain ⟨rfl, rfl⟩ := H
        go_wp2
        go_ret2
        exact ⟨_, by first | rfl | (simp [errW_none, errW_some] <;> rfl) | (simp [*, errW_none, errW_some] <;> rfl), by first | exact Kd.R_nil _ _ _ _ _ | exact Kd.N_nil _ _ _ _ _ | exact Kd.V_nil _ _ _ _ _ | exact Kd.Q_nil _ _ _ _ _ | exact Kd.S_nil _ _ _ _ _, by repeat (first | (with_reducible first | exact HB.out | apply below_alloc | apply pw_below_drewN | apply below_drew1) | exact HB.out)⟩
      · replace c6 := Bool.eq_false_iff.mpr c6
        subst c6
        have H1 : (bits_Bytes.l0 kj2 l0 a1 ([] : List Int) (wrap64 (8 * (l0.length : Int))) 0) = some (r1, r2) := by rw [if_neg (show ¬ (false = true) by decide)] at H; exact H
        clear H
        have H := H1
        clear H1
        have H' := Aside0.mk H
        clear H
        go_wp2
        go_loopg [6, 30] kj2 (fun kq v6 v30 w' => ∃ (x6_2 : List Int) (x30_2 : Int), v30 = .int .i64 x30_2 ∧ Aside0 (bits_Bytes.l0 kq l0 a1 x6_2 (wrap64 (8 * (l0.length : Int))) x30_2 = some (r1, r2)) ∧ Aside0 (kq ≤ kj2) ∧ Aside0 (Kd.R (Kd.int .u8) 5 w' w.heap.size (fun _ => True) v6 x6_2) ∧ Aside0 (Below w.heap.size w w'))
        case atStart => exact ⟨(([] : List Int)), (0), (by first | rfl | (simp; done) | (simp [*]; done)), H', ⟨Nat.le_refl _⟩, ⟨by first | exact Kd.R_nil _ _ _ _ _ | exact Kd.N_nil _ _ _ _ _ | exact Kd.V_nil _ _ _ _ _ | exact Kd.Q_nil _ _ _ _ _ | exact Kd.S_nil _ _ _ _ _⟩, ⟨by repeat (first | (with_reducible first | exact HB.out | apply below_alloc | apply pw_below_drewN | apply below_drew1) | exact HB.out)⟩⟩
        case round =>
          clear H'
          try clear c1
          try clear p2
          try clear c4
          try clear c4b0
          try clear c5
          try clear c5b0
          try clear c6
          try clear p6
          try clear p2
          obtain ⟨x6_2, x30_2, rfl, HA, HK2, HO_6, HB⟩ := hrel
          cases gk with
          | zero => exact absurd HA.out (by simp [bits_Bytes.l0])
          | succ k2 =>
            have H := HA.out
            clear HA
            simp only [bits_Bytes.l0] at H
            by_cases c7 : x30_2 < (wrap64 (8 * (l0.length : Int)))
            · rw [if_pos c7] at H
              have c7b0 : decide (x30_2 < (wrap64 (8 * (l0.length : Int)))) = true := decide_eq_true c7
              clear c7
              obtain ⟨ji8, hji8⟩ : ∃ j_ : Int, (wrap64 (Int.tdiv x30_2 8)) = j_ := ⟨_, rfl⟩
              replace H : (if 0 ≤ (ji8) then (if (ji8) < (l0.length : Int) then (if 0 ≤ (wrap64 (8 * (Int.tmod x30_2 8))) then (if x30_2 < a1 then (if x6_2.length < 140737488355328 then (bits_Bytes.l0 k2 l0 a1 (x6_2 ++ [(shr .u64 (rd l0 (ji8)) (wrap64 (8 * (Int.tmod x30_2 8)))) % 256]) (wrap64 (8 * (l0.length : Int))) (wrap64 (x30_2 + 1))) else (none)) else (if ((shr .u64 (rd l0 (ji8)) (wrap64 (8 * (Int.tmod x30_2 8)))) % 256) = 0 then (bits_Bytes.l0 k2 l0 a1 x6_2 (wrap64 (8 * (l0.length : Int))) (wrap64 (x30_2 + 1))) else (some (([] : List Int), some 14)))) else (none)) else (none)) else (none)) = some (r1, r2) := by first | (rw [hji8] at H; exact H) | (simp only [hji8] at H ⊢; exact H)
              have hji8w : (IntKind.i64.wrap (Int.tdiv x30_2 8)) = ji8 := (i64_w _).trans hji8
              by_cases c9 : 0 ≤ (ji8)
              · rw [if_pos c9] at H
                have c9b0 : decide (0 ≤ (ji8)) = true := decide_eq_true c9
                clear c9
                by_cases c10 : (ji8) < (l0.length : Int)
                · rw [if_pos c10] at H
                  have c10b0 : decide ((ji8) < (l0.length : Int)) = true := decide_eq_true c10
                  clear c10
                  obtain ⟨ji11, hji11⟩ : ∃ j_ : Int, (wrap64 (8 * (Int.tmod x30_2 8))) = j_ := ⟨_, rfl⟩
                  replace H : (if 0 ≤ (ji11) then (if x30_2 < a1 then (if x6_2.length < 140737488355328 then (bits_Bytes.l0 k2 l0 a1 (x6_2 ++ [(shr .u64 (rd l0 (ji8)) (ji11)) % 256]) (wrap64 (8 * (l0.length : Int))) (wrap64 (x30_2 + 1))) else (none)) else (if ((shr .u64 (rd l0 (ji8)) (ji11)) % 256) = 0 then (bits_Bytes.l0 k2 l0 a1 x6_2 (wrap64 (8 * (l0.length : Int))) (wrap64 (x30_2 + 1))) else (some (([] : List Int), some 14)))) else (none)) = some (r1, r2) := by first | (rw [hji11] at H; exact H) | (simp only [hji11] at H ⊢; exact H)
                  have hji11w : (IntKind.i64.wrap (8 * (Int.tmod x30_2 8))) = ji11 := (i64_w _).trans hji11
                  by_cases c12 : 0 ≤ (ji11)
                  · rw [if_pos c12] at H
                    have c12b0 := eq_true c12
                    have c12b1 : decide (0 ≤ (ji11)) = true := decide_eq_true c12
                    clear c12
                    obtain ⟨ji13, hji13⟩ : ∃ j_ : Int, (shr .u64 (rd l0 (ji8)) (ji11)) = j_ := ⟨_, rfl⟩
                    replace H : (if x30_2 < a1 then (if x6_2.length < 140737488355328 then (bits_Bytes.l0 k2 l0 a1 (x6_2 ++ [(ji13) % 256]) (wrap64 (8 * (l0.length : Int))) (wrap64 (x30_2 + 1))) else (none)) else (if ((ji13) % 256) = 0 then (bits_Bytes.l0 k2 l0 a1 x6_2 (wrap64 (8 * (l0.length : Int))) (wrap64 (x30_2 + 1))) else (some (([] : List Int), some 14)))) = some (r1, r2) := by first | (rw [hji13] at H; exact H) | (simp only [hji13] at H ⊢; exact H)
                    have hji13_ : ((rd l0 (ji8)) / 2 ^ min (ji11).toNat 64) = ji13 := hji13
                    have hji13z : (ji11) ≤ 64 → ((rd l0 (ji8)) / 2 ^ (ji11).toNat) = ji13 := shr_small hji13
                    by_cases c14 : x30_2 < a1
                    · rw [if_pos c14] at H
                      have c14b0 : decide (x30_2 < a1) = true := decide_eq_true c14
                      clear c14
                      by_cases c15 : x6_2.length < 140737488355328
                      · rw [if_pos c15] at H
                        have LMc15 := Aside0.mk c15
                        clear c15
                        obtain ⟨y128, hy128⟩ : ∃ y_ : List Int, y_ = (x6_2 ++ [(ji13) % 256]) := ⟨_, rfl⟩
                        replace H : (bits_Bytes.l0 k2 l0 a1 y128 (wrap64 (8 * (l0.length : Int))) (wrap64 (x30_2 + 1))) = some (r1, r2) := by first | (rw [hy128]; with_reducible exact H) | (have H2_ := (Option.bind_some _ _).symm.trans H; rw [hy128]; with_reducible exact H2_) | (have H2_ := (Option.bind_some _ _).symm.trans H; with_reducible exact H2_) | with_reducible exact H | (rw [hy128]; exact H) | exact H
                        have Ny128 := Aside0.mk hy128
                        clear hy128
                        have H' := Aside0.mk H
                        clear H
                        have p127 : 0 ≤ ((ji8) : Int) := of_decide_eq_true (by first | (with_reducible assumption) | assumption)
                        have q127 : (ji8) < (l0.length : Int) := of_decide_eq_true (by first | (with_reducible assumption) | assumption)
                        obtain ⟨ad127, e127, hx127_0⟩ := Kd.at_int HR0.out (ji8) p127 q127
                        cases e127
                        replace hx127_0 := (HB.out.cell (World.block_lt_of_cell? w _ hx127_0)).trans hx127_0
                        replace p127 := eq_true p127
                        replace q127 := eq_true q127
                        go_wp2_with (first | ((with_reducible refine gate_builtin (b := .append) (xs := #[.tmp 47, .tmp 49]) rfl ?_); (try (refine gate_guard (by rfl) ?_; dsimp only)); at_builtin; refine Kd.R_append (Kd.int .u8) (w0 := w) w.heap.size rfl (.tmp 47) (.tmp 49) 27 5 (.int .u8 0) 1 rfl Try.underlying27 info5 rfl (by decide) (by omega) u6 x6_2 ((ji13) % 256) [.int .u8 ((ji13) % 256)] (fun _ => True) (fun _ => False) rfl rfl ?aP (fun _ hk => hk.elim) ?aF ?aO ?aB ?aS ?aL ?_; (case aP => exact rfl); (case aB => exact (by repeat (first | (with_reducible first | exact HB.out | apply below_alloc | apply pw_below_drewN | apply below_drew1) | exact HB.out))); (case aF => exact (fun _ _ => trivial)); (case aO => exact (by (with_reducible repeat (first | apply Kd.R_alloc | apply Kd.R_drewN | apply Kd.R_drew)); exact HO_6.out)); (case aS => exact (below_size (by repeat (first | (with_reducible first | exact HB.out | apply below_alloc | apply pw_below_drewN | apply below_drew1) | exact HB.out)))); (case aL => have := LMc15.out; omega); intro v129 w16 ho hb hg hat; rw [← Ny128.out] at ho; have n0_ := Aside0.mk (hb); have n1_ := Aside0.mk (ho); clear HB; clear HO_6; have HB := n0_; have HO130 := n1_; clear n0_ n1_; clear ho hb hg hat))
                        go_roundg k2
                        case measure => have := HJ2.out; have := HK2.out; omega
                        case rel => exact ⟨(y128), (wrap64 (x30_2 + 1)), (by first | rfl | (simp; done) | (simp [*]; done)), H', ⟨by have := HJ2.out; have := HK2.out; omega⟩, ⟨by (with_reducible repeat (first | apply Kd.R_alloc | apply Kd.R_drewN | apply Kd.R_drew)); exact HO130.out⟩, ⟨by repeat (first | (with_reducible first | exact HB.out | apply below_alloc | apply pw_below_drewN | apply below_drew1) | exact HB.out)⟩⟩
                      · rw [if_neg c15] at H
                        exact absurd H (by simp)
                    · rw [if_neg c14] at H
                      have c14b0 : decide (x30_2 < a1) = false := decide_eq_false c14
                      clear c14
                      by_cases c17 : ((ji13) % 256) = 0
                      · rw [if_pos c17] at H
                        have c17b0 : (((ji13) % 256) == 0) = true := beq_iff_eq.mpr c17
                        have c17b1 : (((ji13) % 256) != 0) = false := bne_eq_false_iff_eq.mpr c17
                        clear c17
                        have H' := Aside0.mk H
                        clear H
                        have p127 : 0 ≤ ((ji8) : Int) := of_decide_eq_true (by first | (with_reducible assumption) | assumption)
                        have q127 : (ji8) < (l0.length : Int) := of_decide_eq_true (by first | (with_reducible assumption) | assumption)
                        obtain ⟨ad127, e127, hx127_0⟩ := Kd.at_int HR0.out (ji8) p127 q127
                        cases e127
                        replace hx127_0 := (HB.out.cell (World.block_lt_of_cell? w _ hx127_0)).trans hx127_0
                        replace p127 := eq_true p127
                        replace q127 := eq_true q127
                        go_wp2
                        go_roundg k2
                        case measure => have := HJ2.out; have := HK2.out; omega
                        case rel => exact ⟨(x6_2), (wrap64 (x30_2 + 1)), (by first | rfl | (simp; done) | (simp [*]; done)), H', ⟨by have := HJ2.out; have := HK2.out; omega⟩, ⟨by (with_reducible repeat (first | apply Kd.R_alloc | apply Kd.R_drewN | apply Kd.R_drew)); exact HO_6.out⟩, ⟨by repeat (first | (with_reducible first | exact HB.out | apply below_alloc | apply pw_below_drewN | apply below_drew1) | exact HB.out)⟩⟩
                      · rw [if_neg c17] at H
                        have c17b0 : (((ji13) % 256) == 0) = false := beq_eq_false_iff_ne.mpr c17
                        have c17b1 : (((ji13) % 256) != 0) = true := bne_iff_ne.mpr c17
                        simp only [Option.some.injEq, Prod.mk.injEq] at H
                        obtain ⟨rfl, rfl⟩ := H
                        have p127 : 0 ≤ ((ji8) : Int) := of_decide_eq_true (by first | (with_reducible assumption) | assumption)
                        have q127 : (ji8) < (l0.length : Int) := of_decide_eq_true (by first | (with_reducible assumption) | assumption)
                        obtain ⟨ad127, e127, hx127_0⟩ := Kd.at_int HR0.out (ji8) p127 q127
                        cases e127
                        replace hx127_0 := (HB.out.cell (World.block_lt_of_cell? w _ hx127_0)).trans hx127_0
                        replace p127 := eq_true p127
                        replace q127 := eq_true q127
                        go_wp2
                        go_ret2
                        exact ⟨_, by first | rfl | (simp [errW_none, errW_some] <;> rfl) | (simp only [← hji8, ← hji11, ← hji13]; first | rfl | (simp [errW_none, errW_some] <;> rfl)) | (simp [*, errW_none, errW_some] <;> rfl), by first | exact Kd.R_nil _ _ _ _ _ | exact Kd.N_nil _ _ _ _ _ | exact Kd.V_nil _ _ _ _ _ | exact Kd.Q_nil _ _ _ _ _ | exact Kd.S_nil _ _ _ _ _, by repeat (first | (with_reducible first | exact HB.out | apply below_alloc | apply pw_below_drewN | apply below_drew1) | exact HB.out)⟩
                  · rw [if_neg c12] at H
                    exact absurd H (by simp)
                · rw [if_neg c10] at H
                  exact absurd H (by simp)
              · rw [if_neg c9] at H
                exact absurd H (by simp)
            · rw [if_neg c7] at H
              have c7b0 : decide (x30_2 < (wrap64 (8 * (l0.length : Int)))) = false := decide_eq_false c7
              clear c7
              simp only [Option.some.injEq, Prod.mk.injEq] at H
              obtain ⟨rfl, rfl⟩ := H
              go_wp2
              go_ret2
              exact ⟨_, by first | rfl | (simp [errW_none, errW_some] <;> rfl) | (simp [*, errW_none, errW_some] <;> rfl), by (with_reducible repeat (first | apply Kd.R_alloc | apply Kd.R_drewN | apply Kd.R_drew)); exact HO_6.out, by repeat (first | (with_reducible first | exact HB.out | apply below_alloc | apply pw_below_drewN | apply below_drew1) | exact HB.out)⟩

/-! ### dolmenalike_Code: function 15 -/

section
open Go.Extern.Stop Go.Stop Go.Extern
theorem isTypeOf (v : Value) (w : World) : (Extern.ReflectliteType.typeOf #[.iface 51 v]).run Try.prog w = .ok (.iface 58 (.agg #[.pointer (some ⟨0, 51, none⟩)])) w := by kernel_rfl
def cmpM : Array Value → Sem Value := Extern.ReflectliteType.method fun t => do Go.Extern.Rtype.noPackHeld "Comparable" t; pure (.bool (← typeInfo t).comparable)
theorem isComparable (w : World) : (cmpM #[.agg #[.pointer (some ⟨0, 51, none⟩)]]).run Try.prog w = .ok (.bool true) w := by kernel_rfl
theorem isMethodComparable (v : Value) (w : World) : (Go.method 202 58 v "Comparable").run Try.prog w = .ok (50, v) w := by kernel_rfl
theorem isComp : (Try.prog.info? 51).map (·.comparable) = some true := by kernel_rfl
theorem noIsE (v : Value) (xT : TypeId) (w : World) : (Instr.typeAssert (.iface 51 v) xT 60 true).run Try.prog w = .ok (.tuple #[.nilIface, .bool false]) w := run_typeAssert_lacksB Try.underlying60 (by kernel_rfl) (by kernel_rfl) v xT w
theorem noUnwrapE (v : Value) (xT : TypeId) (w : World) : (Instr.typeAssert (.iface 51 v) xT 63 true).run Try.prog w = .ok (.tuple #[.nilIface, .bool false]) w := run_typeAssert_lacksB Try.underlying63 (by kernel_rfl) (by kernel_rfl) v xT w
theorem noUnwrapsE (v : Value) (xT : TypeId) (w : World) : (Instr.typeAssert (.iface 51 v) xT 65 true).run Try.prog w = .ok (.tuple #[.nilIface, .bool false]) w := run_typeAssert_lacksB Try.underlying65 (by kernel_rfl) (by kernel_rfl) v xT w

/-- errors.Is of two numbers of the type api.Errno: whether they are the same. -/
theorem is_num (a b : Int) (w : World) :
    Calls Try.prog 28 #[.iface 51 (.int .i64 a), .iface 51 (.int .i64 b)] w fun e w' => e = .returned (.bool (a == b)) ∧ w' = w := by
  have h8 := @run_callFunc_extern Try.prog 29 _ Extern.ReflectliteType.typeOf Try.func29 (by kernel_rfl) (by kernel_rfl) (by kernel_rfl) (by kernel_rfl)
  have h32 := @run_callFunc_extern Try.prog 50 _ cmpM Try.func50 (by kernel_rfl) (by kernel_rfl) (by kernel_rfl) (by kernel_rfl)
  have tT := isTypeOf
  have cT := isComparable
  have mR := isMethodComparable
  have nE := noIsE
  have uE := noUnwrapE
  have vE := noUnwrapsE
  have heq := Go.Lib.run_eql_iface_int (P := Try.prog) w (k := .i64) a b Try.underlying33 isComp Try.underlying51
  by_cases hab : (a == b) = true
  · rw [hab] at heq ⊢
    go_enter Try.func28, Try.ntmps28
    go_wp2
    refine wp_loop_rounds 1 ?_
    rw [rounds_succ]
    go_wp2
    go_ret
    exact ⟨rfl, rfl⟩
  · have hab' : (a == b) = false := by simpa using hab
    rw [hab'] at heq ⊢
    clear hab
    go_enter Try.func28, Try.ntmps28
    go_wp2
    refine wp_loop_rounds 1 ?_
    rw [rounds_succ]
    go_wp2
    go_ret
    exact ⟨rfl, rfl⟩

def codeOf (c : Int) : Int := if 1 ≤ c ∧ c ≤ 19 then c else -1
def dolmenalike_Code.f (a0 : Option Int) : Option Int := some (match a0 with | none => 0 | some c => codeOf c)
theorem code_num (c : Int) (w : World) :
    Calls Try.prog 15 #[.iface 51 (.int .i64 c)] w fun e w' => e = .returned (.int .i64 (codeOf c)) ∧ w' = w := by
  have hn := run_eql_held_nil (P := Try.prog) w 33 51 (.int .i64 c) (by rw [Try.underlying33]; rfl)
  go_enter Try.func15, Try.ntmps15
  go_wp2
  go_loop [3] (fun k => ∃ n : Int, 1 ≤ n ∧ n ≤ 20 ∧ k = .int .i64 n ∧ Hid (∀ j : Int, 1 ≤ j → j < n → j ≠ c)) (fun k => 20 - (intOf k).toNat)
  case atStart => exact ⟨1, by omega, by omega, rfl, Lib.hid (fun j h1 h2 => by omega)⟩
  case round =>
    obtain ⟨n, h1, h20, rfl, HJ⟩ := hrel
    by_cases hlt : n ≤ 19
    · by_cases hc : c = n
      · have H19 : codeOf n = n := if_pos ⟨h1, hlt⟩
        subst hc
        go_wp2_with (go_at_call 28; refine (is_num _ _ _).mono ?_; rintro e w' ⟨rfl, rfl⟩)
        go_ret
        exact ⟨congrArg (fun x => Ending.returned (.int .i64 x)) H19.symm, rfl⟩
      · have hf : (c == n) = false := by simpa using hc
        have HC := Lib.hid hc
        clear hc
        go_wp2_with (go_at_call 28; refine (is_num _ _ _).mono ?_; rintro e w' ⟨rfl, rfl⟩)
        go_round
        case rel => exact ⟨n + 1, by omega, by omega, by go_num, Lib.hid (fun j a b => by by_cases e : j = n; exact e ▸ fun h => HC.out h.symm; exact HJ.out j a (by omega))⟩
        case measure => simp [intOf]; omega
    · have H20 : codeOf c = -1 := if_neg (fun h => HJ.out c h.1 (by omega) rfl)
      go_wp2
      go_ret
      exact ⟨rfl, rfl⟩
theorem dolmenalike_Code.calls (a0 : Option Int) (r : Int) (w : World) (h : dolmenalike_Code.f a0 = some r) :
    Calls Try.prog 15 #[errW a0] w fun e w' => e = .returned (.int .i64 r) ∧ Drawn0 w w' := by
  cases a0 with
  | none =>
    obtain rfl := Option.some.inj h
    have hn := run_eql_nil_nil (P := Try.prog) w 33 (by rw [Try.underlying33]; rfl)
    rw [errW_none]
    go_enter Try.func15, Try.ntmps15
    go_wp2
    go_ret
    exact ⟨rfl, ⟨0, rfl⟩⟩
  | some c =>
    obtain rfl := Option.some.inj h
    rw [errW_some]
    exact (code_num c w).mono fun e w' h => ⟨h.1, ⟨0, h.2⟩⟩
end

/-! ### dolmenlaw1_BitsBack: function 6 -/
mutual
def dolmenlaw1_BitsBack.j0 : Nat → List Int → Int → Bool → Option (Bool)
  | 0, _, _, _ => none
  | k + 1, x0, x1, x21 => if x21 = true then ((dolmenlaw1_awake.f k).bind fun t131 => (some t131)) else ((bits_Words.f k x0).bind fun t132 => ((bits_Bytes.f k t132 (x0.length : Int)).bind fun bt135 => (if bt135.2.isNone = true then (if (strOfNums bt135.1).toList = (strOfNums x0).toList then (dolmenlaw1_BitsBack.j1 k x0 x1 t132 ((t132.length : Int) != (wrap64 (Int.tdiv (wrap64 ((x0.length : Int) + 7)) 8)))) else (dolmenlaw1_BitsBack.j1 k x0 x1 t132 true)) else (dolmenlaw1_BitsBack.j1 k x0 x1 t132 true))))
def dolmenlaw1_BitsBack.j1 : Nat → List Int → Int → List Int → Bool → Option (Bool)
  | 0, _, _, _, _ => none
  | k + 1, x0, x1, x5, x49 => if x49 = true then (some false) else ((bits_Bytes.f k x5 x1).bind fun bt140 => (if bt140.2.isNone = true then (dolmenlaw1_BitsBack.l0 k x0 x1 x5 bt140.1 (mn x1 (x0.length : Int))) else (if (bt140.1.length : Int) = 0 then ((dolmenalike_Code.f (some (bt140.2.getD 0))).bind fun t147 => (if t147 = 14 then (if x1 = (x0.length : Int) then (some false) else ((dolmenlaw1_awake.f k).bind fun t148 => (some t148))) else (some false))) else (some false))))
def dolmenlaw1_BitsBack.l0 : Nat → List Int → Int → List Int → List Int → Int → Option (Bool)
  | 0, _, _, _, _, _ => none
  | k + 1, x0, x1, x5, x8, x10 => if x10 < (x0.length : Int) then (if 0 ≤ x10 then (if (rd x0 x10) = 0 then (dolmenlaw1_BitsBack.l0 k x0 x1 x5 x8 (wrap64 (x10 + 1))) else (some false)) else (none)) else (if (x8.length : Int) = x1 then (if (wrap64 (Int.tdiv (wrap64 (x1 + 7)) 8)) = (x5.length : Int) then ((dolmenlaw1_awake.f k).bind fun t146 => (some t146)) else (some false)) else (some false))
end
def dolmenlaw1_BitsBack.f (k : Nat) (l0 : List Int) (a1 : Int) : Option (Bool) := if (l0.length : Int) > 2000 then (dolmenlaw1_BitsBack.j0 k l0 a1 true) else (if a1 < 0 then (dolmenlaw1_BitsBack.j0 k l0 a1 true) else (dolmenlaw1_BitsBack.j0 k l0 a1 (decide (a1 > 4000))))
theorem dolmenlaw1_BitsBack.mono_l : ∀ k, (∀ y0 y1 y2, LeO (dolmenlaw1_BitsBack.j0 k y0 y1 y2) (dolmenlaw1_BitsBack.j0 (k + 1) y0 y1 y2)) ∧ (∀ y0 y1 y2 y3, LeO (dolmenlaw1_BitsBack.j1 k y0 y1 y2 y3) (dolmenlaw1_BitsBack.j1 (k + 1) y0 y1 y2 y3)) ∧ (∀ y0 y1 y2 y3 y4, LeO (dolmenlaw1_BitsBack.l0 k y0 y1 y2 y3 y4) (dolmenlaw1_BitsBack.l0 (k + 1) y0 y1 y2 y3 y4))
  | 0 => ⟨fun _ _ _ r h => by simp [dolmenlaw1_BitsBack.j0] at h, fun _ _ _ _ r h => by simp [dolmenlaw1_BitsBack.j1] at h, fun _ _ _ _ _ r h => by simp [dolmenlaw1_BitsBack.l0] at h⟩
  | k + 1 => by
    obtain ⟨ih0, ih1, ih2⟩ := dolmenlaw1_BitsBack.mono_l k
    refine ⟨?_, ?_, ?_⟩
    · intro y0 y1 y2
      unfold dolmenlaw1_BitsBack.j0
      repeat' first
      | (with_reducible exact ih0 _ _ _)
      | (with_reducible exact ih1 _ _ _ _)
      | (with_reducible exact ih2 _ _ _ _ _)
      | (with_reducible exact bits_Bytes.mono _ _ _)
      | (with_reducible exact bits_Words.mono _ _)
      | (with_reducible exact dolmenlaw1_awake.mono _)
      | (with_reducible exact LeO.refl _)
      | (with_reducible exact LeO.none _)
      | (with_reducible refine LeO.ite ?_ ?_)
      | (with_reducible refine LeO.bind ?_ (fun _ => ?_))
      | exact ih0 _ _ _
      | exact ih1 _ _ _ _
      | exact ih2 _ _ _ _ _
      | exact bits_Bytes.mono _ _ _
      | exact bits_Words.mono _ _
      | exact dolmenlaw1_awake.mono _
      | exact LeO.none _
      | refine LeO.ite ?_ ?_
      | refine LeO.bind ?_ (fun _ => ?_)
    · intro y0 y1 y2 y3
      unfold dolmenlaw1_BitsBack.j1
      repeat' first
      | (with_reducible exact ih0 _ _ _)
      | (with_reducible exact ih1 _ _ _ _)
      | (with_reducible exact ih2 _ _ _ _ _)
      | (with_reducible exact bits_Bytes.mono _ _ _)
      | (with_reducible exact bits_Words.mono _ _)
      | (with_reducible exact dolmenlaw1_awake.mono _)
      | (with_reducible exact LeO.refl _)
      | (with_reducible exact LeO.none _)
      | (with_reducible refine LeO.ite ?_ ?_)
      | (with_reducible refine LeO.bind ?_ (fun _ => ?_))
      | exact ih0 _ _ _
      | exact ih1 _ _ _ _
      | exact ih2 _ _ _ _ _
      | exact bits_Bytes.mono _ _ _
      | exact bits_Words.mono _ _
      | exact dolmenlaw1_awake.mono _
      | exact LeO.none _
      | refine LeO.ite ?_ ?_
      | refine LeO.bind ?_ (fun _ => ?_)
    · intro y0 y1 y2 y3 y4
      unfold dolmenlaw1_BitsBack.l0
      repeat' first
      | (with_reducible exact ih0 _ _ _)
      | (with_reducible exact ih1 _ _ _ _)
      | (with_reducible exact ih2 _ _ _ _ _)
      | (with_reducible exact bits_Bytes.mono _ _ _)
      | (with_reducible exact bits_Words.mono _ _)
      | (with_reducible exact dolmenlaw1_awake.mono _)
      | (with_reducible exact LeO.refl _)
      | (with_reducible exact LeO.none _)
      | (with_reducible refine LeO.ite ?_ ?_)
      | (with_reducible refine LeO.bind ?_ (fun _ => ?_))
      | exact ih0 _ _ _
      | exact ih1 _ _ _ _
      | exact ih2 _ _ _ _ _
      | exact bits_Bytes.mono _ _ _
      | exact bits_Words.mono _ _
      | exact dolmenlaw1_awake.mono _
      | exact LeO.none _
      | refine LeO.ite ?_ ?_
      | refine LeO.bind ?_ (fun _ => ?_)
theorem dolmenlaw1_BitsBack.mono : ∀ a0 a1 k, LeO (dolmenlaw1_BitsBack.f k a0 a1) (dolmenlaw1_BitsBack.f (k + 1) a0 a1) := by
  intro a0 a1 k
  obtain ⟨ih0, ih1, ih2⟩ := dolmenlaw1_BitsBack.mono_l k
  unfold dolmenlaw1_BitsBack.f
  repeat' first
      | (with_reducible exact ih0 _ _ _)
      | (with_reducible exact ih1 _ _ _ _)
      | (with_reducible exact ih2 _ _ _ _ _)
      | (with_reducible exact bits_Bytes.mono _ _ _)
      | (with_reducible exact bits_Words.mono _ _)
      | (with_reducible exact dolmenlaw1_awake.mono _)
      | (with_reducible exact LeO.refl _)
      | (with_reducible exact LeO.none _)
      | (with_reducible refine LeO.ite ?_ ?_)
      | (with_reducible refine LeO.bind ?_ (fun _ => ?_))
      | exact ih0 _ _ _
      | exact ih1 _ _ _ _
      | exact ih2 _ _ _ _ _
      | exact bits_Bytes.mono _ _ _
      | exact bits_Words.mono _ _
      | exact dolmenlaw1_awake.mono _
      | exact LeO.none _
      | refine LeO.ite ?_ ?_
      | refine LeO.bind ?_ (fun _ => ?_)
set_option maxHeartbeats 8000000 in
set_option maxRecDepth 100000 in
theorem dolmenlaw1_BitsBack.calls (k : Nat) (A0 : Option Addr) (c0 : Nat) (l0 : List Int) (a1 : Int) (r : Bool) (w : World) (hr0 : Kd.C (Kd.int .u8) w A0 l0.length l0) (hc0 : l0.length ≤ c0) (h : dolmenlaw1_BitsBack.f k l0 a1 = some r) :
    Calls Try.prog 6 #[.slice A0 l0.length c0, .int .i64 a1] w fun e w' => e = .returned (.bool r) ∧ Below w.heap.size w w' := by
  have hu33 := Try.underlying33
  have hu51 := Try.underlying51
  have HR0 := Aside0.mk hr0
  have HC0 := Aside0.mk hc0
  clear hr0 hc0
  have HB := Aside0.mk (Below.refl w.heap.size w)
  have H : (if (l0.length : Int) > 2000 then (dolmenlaw1_BitsBack.j0 k l0 a1 true) else (if a1 < 0 then (dolmenlaw1_BitsBack.j0 k l0 a1 true) else (dolmenlaw1_BitsBack.j0 k l0 a1 (decide (a1 > 4000))))) = some r := h
  clear h
  have HC3 := Aside0.mk H
  clear H
  go_enter Try.func6, Try.ntmps6
  go_upto_region 1 with (fail)
  go_cut [21] (fun v21 wc => ∃ (kq : Nat) (x21_2 : Bool), v21 = .bool x21_2 ∧ Aside0 (dolmenlaw1_BitsBack.j0 kq l0 a1 x21_2 = some r) ∧ Aside0 (kq ≤ k) ∧ Aside0 (Below w.heap.size w wc))
  case first =>
    have H := HC3.out
    clear HC3
    by_cases c4 : (l0.length : Int) > 2000
    · rw [if_pos c4] at H
      have c4b0 : decide (2000 < (l0.length : Int)) = true := decide_eq_true c4
      have c4b1 : decide (2000 < l0.length) = true := decide_eq_true (by omega)
      clear c4
      (first | rw [c4b0] | (simp only [i64_w, i32_w]; rw [c4b0]) | skip)
      have H' := Aside0.mk H
      clear H
      go_wp2
      go_meet
      case rel => exact ⟨_, (true), (by first | rfl | (simp; done) | (simp [*]; done)), H', ⟨by first | omega | exact Nat.le_refl _⟩, ⟨by repeat (first | (with_reducible first | exact HB.out | apply below_alloc | apply pw_below_drewN | apply below_drew1) | exact HB.out)⟩⟩
    · rw [if_neg c4] at H
      have c4b0 : decide (2000 < (l0.length : Int)) = false := decide_eq_false c4
      have c4b1 : decide (2000 < l0.length) = false := decide_eq_false (by omega)
      clear c4
      (first | rw [c4b0] | (simp only [i64_w, i32_w]; rw [c4b0]) | skip)
      by_cases c5 : a1 < 0
      · rw [if_pos c5] at H
        have c5b0 : decide (a1 < 0) = true := decide_eq_true c5
        clear c5
        have H' := Aside0.mk H
        clear H
        go_wp2
        go_meet
        case rel => exact ⟨_, (true), (by first | rfl | (simp; done) | (simp [*]; done)), H', ⟨by first | omega | exact Nat.le_refl _⟩, ⟨by repeat (first | (with_reducible first | exact HB.out | apply below_alloc | apply pw_below_drewN | apply below_drew1) | exact HB.out)⟩⟩
      · rw [if_neg c5] at H
        have c5b0 : decide (a1 < 0) = false := decide_eq_false c5
        clear c5
        have H' := Aside0.mk H
        clear H
        go_wp2
        go_meet
        case rel => exact ⟨_, (decide (a1 > 4000)), (by first | rfl | (simp; done) | (simp [*]; done)), H', ⟨by first | omega | exact Nat.le_refl _⟩, ⟨by repeat (first | (with_reducible first | exact HB.out | apply below_alloc | apply pw_below_drewN | apply below_drew1) | exact HB.out)⟩⟩
  case rest =>
    clear HC3
    try clear p2
    try clear c4
    try clear c4b0
    try clear c4b1
    try clear c5
    try clear c5b0
    obtain ⟨kq, x21_2, rfl, HA, HJ2, HB⟩ := hcut
    cases kq with
    | zero => exact absurd HA.out (by simp [dolmenlaw1_BitsBack.j0])
    | succ kj2 =>
      have H := HA.out
      clear HA
      simp only [dolmenlaw1_BitsBack.j0] at H
      by_cases c6 : x21_2 = true
      · subst c6
        have H1 : ((dolmenlaw1_awake.f kj2).bind fun t131 => (some t131)) = some r := by rw [if_pos rfl] at H; exact H
        clear H
        have H := H1
        clear H1
        replace H := Option.bind_eq_some_iff.mp H
        obtain ⟨t131, A70, H⟩ := H
        replace H : (some t131) = some r := H
        have A7 := Aside0.mk A70
        clear A70
        obtain rfl := Option.some.inj H
        go_wp2_with (first | ((with_reducible refine gate_callee (f := 10) rfl ?_); refine goesL_ (some 22) rfl rfl Try.func10 (by kernel_rfl) rfl #[] rfl (by (try simp only [List.map_toArray, List.map_cons, List.map_nil]); first | done | rfl | (simp only [List.length_drop, List.length_take]; rfl)) ?_; (with_reducible refine (dolmenlaw1_awake.calls kj2  t131 _ A7.out).mono ?_); rintro e w8 ⟨rfl, hb⟩; refine ⟨_, rfl, ?_⟩; have n0_ := Aside0.mk (below_step (by repeat (first | (with_reducible first | exact HB.out | apply below_alloc | apply pw_below_drewN | apply below_drew1) | exact HB.out)) hb); clear HB; have HB := n0_; clear n0_; (try clear hb); (try clear hb2); (try clear hk); (try clear hi)))
        go_ret
        exact ⟨by first | rfl | (simp [errW_none, errW_some] <;> rfl) | (simp [*, errW_none, errW_some] <;> rfl), by repeat (first | (with_reducible first | exact HB.out | apply below_alloc | apply pw_below_drewN | apply below_drew1) | exact HB.out)⟩
      · replace c6 := Bool.eq_false_iff.mpr c6
        subst c6
        have H1 : ((bits_Words.f kj2 l0).bind fun t132 => ((bits_Bytes.f kj2 t132 (l0.length : Int)).bind fun bt135 => (if bt135.2.isNone = true then (if (strOfNums bt135.1).toList = (strOfNums l0).toList then (dolmenlaw1_BitsBack.j1 kj2 l0 a1 t132 ((t132.length : Int) != (wrap64 (Int.tdiv (wrap64 ((l0.length : Int) + 7)) 8)))) else (dolmenlaw1_BitsBack.j1 kj2 l0 a1 t132 true)) else (dolmenlaw1_BitsBack.j1 kj2 l0 a1 t132 true)))) = some r := by rw [if_neg (show ¬ (false = true) by decide)] at H; exact H
        clear H
        have H := H1
        clear H1
        replace H := Option.bind_eq_some_iff.mp H
        obtain ⟨t132, A90, H⟩ := H
        replace H : ((bits_Bytes.f kj2 t132 (l0.length : Int)).bind fun bt135 => (if bt135.2.isNone = true then (if (strOfNums bt135.1).toList = (strOfNums l0).toList then (dolmenlaw1_BitsBack.j1 kj2 l0 a1 t132 ((t132.length : Int) != (wrap64 (Int.tdiv (wrap64 ((l0.length : Int) + 7)) 8)))) else (dolmenlaw1_BitsBack.j1 kj2 l0 a1 t132 true)) else (dolmenlaw1_BitsBack.j1 kj2 l0 a1 t132 true))) = some r := H
        have A9 := Aside0.mk A90
        clear A90
        replace H := Option.bind_eq_some_iff.mp H
        obtain ⟨⟨t135, t136⟩, A100, H⟩ := H
        replace H : (if t136.isNone = true then (if (strOfNums t135).toList = (strOfNums l0).toList then (dolmenlaw1_BitsBack.j1 kj2 l0 a1 t132 ((t132.length : Int) != (wrap64 (Int.tdiv (wrap64 ((l0.length : Int) + 7)) 8)))) else (dolmenlaw1_BitsBack.j1 kj2 l0 a1 t132 true)) else (dolmenlaw1_BitsBack.j1 kj2 l0 a1 t132 true)) = some r := H
        have A10 := Aside0.mk A100
        clear A100
        have HC11 := Aside0.mk H
        clear H
        go_upto_region 5 with (first | ((with_reducible refine gate_callee (f := 17) rfl ?_); refine goesL_ (some 24) rfl rfl Try.func17 (by kernel_rfl) rfl #[.slice A0 l0.length c0] rfl (by (try simp only [List.map_toArray, List.map_cons, List.map_nil]); first | done | rfl | (simp only [List.length_drop, List.length_take]; rfl)) ?_; (with_reducible refine (bits_Words.calls kj2 _ _ l0 t132 _ ?side1 ?side2 A9.out).mono ?_); (case side1 => repeat (first | exact (Kd.C_below HR0.out HB.out) | (with_reducible refine Kd.C_alloc ?_ _) | (with_reducible refine Kd.C_drewN ?_ _) | (with_reducible refine Kd.C_drew ?_))); (case side2 => exact HC0.out); rintro e w12 ⟨v133, rfl, ho0, hb⟩; refine ⟨_, rfl, ?_⟩; have n0_ := Aside0.mk (Kd.R_lower ho0 (below_size (by repeat (first | (with_reducible first | exact HB.out | apply below_alloc | apply pw_below_drewN | apply below_drew1) | exact HB.out)))); have n1_ := Aside0.mk (below_step (by repeat (first | (with_reducible first | exact HB.out | apply below_alloc | apply pw_below_drewN | apply below_drew1) | exact HB.out)) hb); clear HB; have HO134 := n0_; have HB := n1_; clear n0_ n1_; (try clear hb); (try clear hb2); (try clear hk); (try clear hi); (try clear ho0); obtain ⟨Ao13, co13, eo13⟩ := Kd.R_slice HO134.out; subst eo13) | ((with_reducible refine gate_callee (f := 13) rfl ?_); refine goesL_ (some 29) rfl rfl Try.func13 (by kernel_rfl) rfl #[.slice Ao13 t132.length co13, .int .i64 (l0.length : Int)] rfl (by (try simp only [List.map_toArray, List.map_cons, List.map_nil]); first | done | rfl | (simp only [List.length_drop, List.length_take]; rfl)) ?_; (with_reducible refine (bits_Bytes.calls kj2 _ _ t132 (l0.length : Int) t135 t136 _ ?side1 ?side2 A10.out).mono ?_); (case side1 => repeat (first | exact (Kd.R_reads' HO134.out).2.2 | (with_reducible refine Kd.C_alloc ?_ _) | (with_reducible refine Kd.C_drewN ?_ _) | (with_reducible refine Kd.C_drew ?_))); (case side2 => exact (Kd.R_reads' HO134.out).2.1); rintro e w14 ⟨v137, rfl, ho0, hb⟩; refine ⟨_, rfl, ?_⟩; have n0_ := Aside0.mk (Kd.R_below (by (with_reducible repeat (first | apply Kd.R_alloc | apply Kd.R_drewN | apply Kd.R_drew)); exact HO134.out) hb); have n1_ := Aside0.mk (Kd.R_lower ho0 (below_size (by repeat (first | (with_reducible first | exact HB.out | apply below_alloc | apply pw_below_drewN | apply below_drew1) | exact HB.out)))); have n2_ := Aside0.mk (below_step (by repeat (first | (with_reducible first | exact HB.out | apply below_alloc | apply pw_below_drewN | apply below_drew1) | exact HB.out)) hb); clear HO134; clear HB; have HO134 := n0_; have HO138 := n1_; have HB := n2_; clear n0_ n1_ n2_; (try clear hb); (try clear hb2); (try clear hk); (try clear hi); (try clear ho0); (try simp only [errW_none, errW_some])))
        (try simp only [Act.put, List.setIfInBounds_toArray, List.set_cons_zero, List.set_cons_succ])
        go_cut [49] (fun v49 wc => ∃ (kq : Nat) (x49_10 : Bool), v49 = .bool x49_10 ∧ Aside0 (dolmenlaw1_BitsBack.j1 kq l0 a1 t132 x49_10 = some r) ∧ Aside0 (kq ≤ kj2) ∧ Aside0 (Kd.R (Kd.int .u64) 22 wc w.heap.size (fun _ => True) (.slice Ao13 t132.length co13) t132) ∧ Aside0 (Below w.heap.size w wc))
        case first =>
          have H := HC11.out
          clear HC11
          rcases t136 with _ | q139
          · have H1 : (if (strOfNums t135).toList = (strOfNums l0).toList then (dolmenlaw1_BitsBack.j1 kj2 l0 a1 t132 ((t132.length : Int) != (wrap64 (Int.tdiv (wrap64 ((l0.length : Int) + 7)) 8)))) else (dolmenlaw1_BitsBack.j1 kj2 l0 a1 t132 true)) = some r := by rw [if_pos (show (none : Option Int).isNone = true by rfl)] at H; exact H
            clear H
            have H := H1
            clear H1
            try simp only [errW_none, errW_some]
            by_cases c15 : (strOfNums t135).toList = (strOfNums l0).toList
            · rw [if_pos c15] at H
              have c15b0 : ((strOfNums t135).toList == (strOfNums l0).toList) = true := beq_iff_eq.mpr c15
              have c15b1 : ((strOfNums t135).toList != (strOfNums l0).toList) = false := bne_eq_false_iff_eq.mpr c15
              clear c15
              (first | rw [c15b0] | (simp only [i64_w, i32_w]; rw [c15b0]) | skip)
              have H' := Aside0.mk H
              clear H
              have hcv16 := own_string (P := Try.prog) Try.underlying27 Try.underlying5 Try.underlying9 (Kd.own_of_R HO138.out); have hcv16d := fun n_ => own_string (P := Try.prog) Try.underlying27 Try.underlying5 Try.underlying9 (Kd.own_of_R (Kd.R_drewN HO138.out n_))
              have hcv17 := Kd.C_string (P := Try.prog) (A := A0) (c := c0) Try.underlying27 Try.underlying5 Try.underlying9 (Kd.C_below HR0.out HB.out)
              go_wp2
              go_meet
              case rel => exact ⟨_, (((t132.length : Int) != (wrap64 (Int.tdiv (wrap64 ((l0.length : Int) + 7)) 8)))), (by first | rfl | (simp; done) | (simp [*]; done)), H', ⟨by have := HJ2.out; first | omega | exact Nat.le_refl _⟩, ⟨by (with_reducible repeat (first | apply Kd.R_alloc | apply Kd.R_drewN | apply Kd.R_drew)); exact HO134.out⟩, ⟨by repeat (first | (with_reducible first | exact HB.out | apply below_alloc | apply pw_below_drewN | apply below_drew1) | exact HB.out)⟩⟩
            · rw [if_neg c15] at H
              have c15b0 : ((strOfNums t135).toList == (strOfNums l0).toList) = false := beq_eq_false_iff_ne.mpr c15
              have c15b1 : ((strOfNums t135).toList != (strOfNums l0).toList) = true := bne_iff_ne.mpr c15
              (first | rw [c15b0] | (simp only [i64_w, i32_w]; rw [c15b0]) | skip)
              have H' := Aside0.mk H
              clear H
              have hcv18 := own_string (P := Try.prog) Try.underlying27 Try.underlying5 Try.underlying9 (Kd.own_of_R HO138.out); have hcv18d := fun n_ => own_string (P := Try.prog) Try.underlying27 Try.underlying5 Try.underlying9 (Kd.own_of_R (Kd.R_drewN HO138.out n_))
              have hcv19 := Kd.C_string (P := Try.prog) (A := A0) (c := c0) Try.underlying27 Try.underlying5 Try.underlying9 (Kd.C_below HR0.out HB.out)
              go_wp2
              go_meet
              case rel => exact ⟨_, (true), (by first | rfl | (simp; done) | (simp [*]; done)), H', ⟨by have := HJ2.out; first | omega | exact Nat.le_refl _⟩, ⟨by (with_reducible repeat (first | apply Kd.R_alloc | apply Kd.R_drewN | apply Kd.R_drew)); exact HO134.out⟩, ⟨by repeat (first | (with_reducible first | exact HB.out | apply below_alloc | apply pw_below_drewN | apply below_drew1) | exact HB.out)⟩⟩
          · have H1 : (dolmenlaw1_BitsBack.j1 kj2 l0 a1 t132 true) = some r := by rw [if_neg (show ¬ (some q139).isNone = true by simp)] at H; exact H
            clear H
            have H := H1
            clear H1
            try simp only [errW_none, errW_some]
            have H' := Aside0.mk H
            clear H
            go_wp2
            go_meet
            case rel => exact ⟨_, (true), (by first | rfl | (simp; done) | (simp [*]; done)), H', ⟨by have := HJ2.out; first | omega | exact Nat.le_refl _⟩, ⟨by (with_reducible repeat (first | apply Kd.R_alloc | apply Kd.R_drewN | apply Kd.R_drew)); exact HO134.out⟩, ⟨by repeat (first | (with_reducible first | exact HB.out | apply below_alloc | apply pw_below_drewN | apply below_drew1) | exact HB.out)⟩⟩
        case rest =>
          clear HC11
          try clear c1
          try clear q1
          try clear hcv1
          try clear p2
          try clear c4
          try clear c4b0
          try clear c4b1
          try clear c5
          try clear c5b0
          try clear c6
          try clear p6
          try clear c10
          try clear c13
          try clear q13
          try clear c15
          try clear c15b0
          try clear c15b1
          try clear hcv16
          try clear c17
          try clear hcv17
          try clear hcv18
          try clear hcv19
          try clear p2
          try clear q139
          obtain ⟨kq, x49_10, rfl, HA, HJ10, HO_5, HB⟩ := hcut
          cases kq with
          | zero => exact absurd HA.out (by simp [dolmenlaw1_BitsBack.j1])
          | succ kj10 =>
            have H := HA.out
            clear HA
            simp only [dolmenlaw1_BitsBack.j1] at H
            by_cases c20 : x49_10 = true
            · subst c20
              have H1 : (some false) = some r := by rw [if_pos rfl] at H; exact H
              clear H
              have H := H1
              clear H1
              obtain rfl := Option.some.inj H
              go_wp2
              go_ret
              exact ⟨by first | rfl | (simp [errW_none, errW_some] <;> rfl) | (simp [*, errW_none, errW_some] <;> rfl), by repeat (first | (with_reducible first | exact HB.out | apply below_alloc | apply pw_below_drewN | apply below_drew1) | exact HB.out)⟩
            · replace c20 := Bool.eq_false_iff.mpr c20
              subst c20
              have H1 : ((bits_Bytes.f kj10 t132 a1).bind fun bt140 => (if bt140.2.isNone = true then (dolmenlaw1_BitsBack.l0 kj10 l0 a1 t132 bt140.1 (mn a1 (l0.length : Int))) else (if (bt140.1.length : Int) = 0 then ((dolmenalike_Code.f (some (bt140.2.getD 0))).bind fun t147 => (if t147 = 14 then (if a1 = (l0.length : Int) then (some false) else ((dolmenlaw1_awake.f kj10).bind fun t148 => (some t148))) else (some false))) else (some false)))) = some r := by rw [if_neg (show ¬ (false = true) by decide)] at H; exact H
              clear H
              have H := H1
              clear H1
              replace H := Option.bind_eq_some_iff.mp H
              obtain ⟨⟨t140, t141⟩, A210, H⟩ := H
              replace H : (if t141.isNone = true then (dolmenlaw1_BitsBack.l0 kj10 l0 a1 t132 t140 (mn a1 (l0.length : Int))) else (if (t140.length : Int) = 0 then ((dolmenalike_Code.f (some (t141.getD 0))).bind fun t147 => (if t147 = 14 then (if a1 = (l0.length : Int) then (some false) else ((dolmenlaw1_awake.f kj10).bind fun t148 => (some t148))) else (some false))) else (some false))) = some r := H
              have A21 := Aside0.mk A210
              clear A210
              rcases t141 with _ | q144
              · have H1 : (dolmenlaw1_BitsBack.l0 kj10 l0 a1 t132 t140 (mn a1 (l0.length : Int))) = some r := by rw [if_pos (show (none : Option Int).isNone = true by rfl)] at H; exact H
                clear H
                have H := H1
                clear H1
                try simp only [errW_none, errW_some]
                obtain ⟨ji22, hji22⟩ : ∃ j_ : Int, (mn a1 (l0.length : Int)) = j_ := ⟨_, rfl⟩
                replace H : (dolmenlaw1_BitsBack.l0 kj10 l0 a1 t132 t140 ji22) = some r := by first | (rw [hji22] at H; exact H) | (simp only [hji22] at H ⊢; exact H)
                (try rw [hji22] at A21)
                have hji22_ : (if (l0.length : Int) < a1 then (l0.length : Int) else a1) = ji22 := hji22
                have H' := Aside0.mk H
                clear H
                go_wp2_with (first | ((with_reducible refine gate_callee (f := 13) rfl ?_); refine goesL_ (some 53) rfl rfl Try.func13 (by kernel_rfl) rfl #[.slice Ao13 t132.length co13, .int .i64 a1] rfl (by (try simp only [List.map_toArray, List.map_cons, List.map_nil]); first | done | rfl | (simp only [List.length_drop, List.length_take]; rfl)) ?_; (with_reducible refine (bits_Bytes.calls kj10 _ _ t132 a1 t140 none _ ?side1 ?side2 A21.out).mono ?_); (case side1 => repeat (first | exact (Kd.R_reads' HO_5.out).2.2 | (with_reducible refine Kd.C_alloc ?_ _) | (with_reducible refine Kd.C_drewN ?_ _) | (with_reducible refine Kd.C_drew ?_))); (case side2 => exact (Kd.R_reads' HO_5.out).2.1); rintro e w23 ⟨v142, rfl, ho0, hb⟩; refine ⟨_, rfl, ?_⟩; have n0_ := Aside0.mk (Kd.R_below (by (with_reducible repeat (first | apply Kd.R_alloc | apply Kd.R_drewN | apply Kd.R_drew)); exact HO_5.out) hb); have n1_ := Aside0.mk (Kd.R_lower ho0 (below_size (by repeat (first | (with_reducible first | exact HB.out | apply below_alloc | apply pw_below_drewN | apply below_drew1) | exact HB.out)))); have n2_ := Aside0.mk (below_step (by repeat (first | (with_reducible first | exact HB.out | apply below_alloc | apply pw_below_drewN | apply below_drew1) | exact HB.out)) hb); clear HO_5; clear HB; have HO_5 := n0_; have HO143 := n1_; have HB := n2_; clear n0_ n1_ n2_; (try clear hb); (try clear hb2); (try clear hk); (try clear hi); (try clear ho0); (try simp only [errW_none, errW_some])))
                go_loopg [10] kj10 (fun kq v10 w' => ∃ (x10_3 : Int), v10 = .int .i64 x10_3 ∧ Aside0 (dolmenlaw1_BitsBack.l0 kq l0 a1 t132 t140 x10_3 = some r) ∧ Aside0 (kq ≤ kj10) ∧ Aside0 (Kd.R (Kd.int .u64) 22 w' w.heap.size (fun _ => True) (.slice Ao13 t132.length co13) t132) ∧ Aside0 (Kd.R (Kd.int .u8) 5 w' w.heap.size (fun _ => True) v142 t140) ∧ Aside0 (Below w.heap.size w w'))
                case atStart => exact ⟨(ji22), (by first | rfl | (simp; done) | (simp only [← hji22] <;> (first | rfl | simp)) | (simp [*]; done)), H', ⟨Nat.le_refl _⟩, ⟨by (with_reducible repeat (first | apply Kd.R_alloc | apply Kd.R_drewN | apply Kd.R_drew)); exact HO_5.out⟩, ⟨by (with_reducible repeat (first | apply Kd.R_alloc | apply Kd.R_drewN | apply Kd.R_drew)); exact HO143.out⟩, ⟨by repeat (first | (with_reducible first | exact HB.out | apply below_alloc | apply pw_below_drewN | apply below_drew1) | exact HB.out)⟩⟩
                case round =>
                  clear H'
                  try clear c1
                  try clear q1
                  try clear hcv1
                  try clear c2
                  try clear p2
                  try clear c4
                  try clear c4b0
                  try clear c4b1
                  try clear c5
                  try clear c5b0
                  try clear c6
                  try clear p6
                  try clear c10
                  try clear c13
                  try clear q13
                  try clear q14
                  try clear c15
                  try clear c15b0
                  try clear c15b1
                  try clear hcv16
                  try clear c17
                  try clear hcv17
                  try clear hcv18
                  try clear hcv19
                  try clear c20
                  try clear p2
                  try clear p6
                  try clear q1
                  try clear q13
                  try clear q139
                  try clear q144
                  obtain ⟨x10_3, rfl, HA, HK3, HO_5, HO_8, HB⟩ := hrel
                  cases gk with
                  | zero => exact absurd HA.out (by simp [dolmenlaw1_BitsBack.l0])
                  | succ k3 =>
                    have H := HA.out
                    clear HA
                    simp only [dolmenlaw1_BitsBack.l0] at H
                    by_cases c24 : x10_3 < (l0.length : Int)
                    · rw [if_pos c24] at H
                      have c24b0 : decide (x10_3 < (l0.length : Int)) = true := decide_eq_true c24
                      clear c24
                      by_cases c25 : 0 ≤ x10_3
                      · rw [if_pos c25] at H
                        have c25b0 : decide (0 ≤ x10_3) = true := decide_eq_true c25
                        clear c25
                        by_cases c26 : (rd l0 x10_3) = 0
                        · rw [if_pos c26] at H
                          have c26b0 : ((rd l0 x10_3) == 0) = true := beq_iff_eq.mpr c26
                          have c26b1 : ((rd l0 x10_3) != 0) = false := bne_eq_false_iff_eq.mpr c26
                          clear c26
                          have H' := Aside0.mk H
                          clear H
                          have p145 : 0 ≤ (x10_3 : Int) := of_decide_eq_true (by first | (with_reducible assumption) | assumption)
                          have q145 : x10_3 < (l0.length : Int) := of_decide_eq_true (by first | (with_reducible assumption) | assumption)
                          obtain ⟨ad145, e145, hx145_0⟩ := Kd.at_int HR0.out x10_3 p145 q145
                          cases e145
                          replace hx145_0 := (HB.out.cell (World.block_lt_of_cell? w _ hx145_0)).trans hx145_0
                          replace p145 := eq_true p145
                          replace q145 := eq_true q145
                          go_wp2
                          go_roundg k3
                          case measure => have := HJ2.out; have := HJ10.out; have := HK3.out; omega
                          case rel => exact ⟨(wrap64 (x10_3 + 1)), (by first | rfl | (simp; done) | (simp [*]; done)), H', ⟨by have := HJ2.out; have := HJ10.out; have := HK3.out; omega⟩, ⟨by (with_reducible repeat (first | apply Kd.R_alloc | apply Kd.R_drewN | apply Kd.R_drew)); exact HO_5.out⟩, ⟨by (with_reducible repeat (first | apply Kd.R_alloc | apply Kd.R_drewN | apply Kd.R_drew)); exact HO_8.out⟩, ⟨by repeat (first | (with_reducible first | exact HB.out | apply below_alloc | apply pw_below_drewN | apply below_drew1) | exact HB.out)⟩⟩
                        · rw [if_neg c26] at H
                          have c26b0 : ((rd l0 x10_3) == 0) = false := beq_eq_false_iff_ne.mpr c26
                          have c26b1 : ((rd l0 x10_3) != 0) = true := bne_iff_ne.mpr c26
                          obtain rfl := Option.some.inj H
                          have p145 : 0 ≤ (x10_3 : Int) := of_decide_eq_true (by first | (with_reducible assumption) | assumption)
                          have q145 : x10_3 < (l0.length : Int) := of_decide_eq_true (by first | (with_reducible assumption) | assumption)
                          obtain ⟨ad145, e145, hx145_0⟩ := Kd.at_int HR0.out x10_3 p145 q145
                          cases e145
                          replace hx145_0 := (HB.out.cell (World.block_lt_of_cell? w _ hx145_0)).trans hx145_0
                          replace p145 := eq_true p145
                          replace q145 := eq_true q145
                          go_wp2
                          go_ret
                          exact ⟨by first | rfl | (simp [errW_none, errW_some] <;> rfl) | (simp only [← hji22]; first | rfl | (simp [errW_none, errW_some] <;> rfl)) | (simp [*, errW_none, errW_some] <;> rfl), by repeat (first | (with_reducible first | exact HB.out | apply below_alloc | apply pw_below_drewN | apply below_drew1) | exact HB.out)⟩
                      · rw [if_neg c25] at H
                        exact absurd H (by simp)
                    · rw [if_neg c24] at H
                      have c24b0 : decide (x10_3 < (l0.length : Int)) = false := decide_eq_false c24
                      clear c24
                      by_cases c27 : (t140.length : Int) = a1
                      · rw [if_pos c27] at H
                        have c27b0 : ((t140.length : Int) == a1) = true := beq_iff_eq.mpr c27
                        have c27b1 : ((t140.length : Int) != a1) = false := bne_eq_false_iff_eq.mpr c27
                        clear c27
                        by_cases c28 : (wrap64 (Int.tdiv (wrap64 (a1 + 7)) 8)) = (t132.length : Int)
                        · rw [if_pos c28] at H
                          have c28b0 : ((wrap64 (Int.tdiv (wrap64 (a1 + 7)) 8)) == (t132.length : Int)) = true := beq_iff_eq.mpr c28
                          have c28b1 : ((wrap64 (Int.tdiv (wrap64 (a1 + 7)) 8)) != (t132.length : Int)) = false := bne_eq_false_iff_eq.mpr c28
                          clear c28
                          replace H := Option.bind_eq_some_iff.mp H
                          obtain ⟨t146, A290, H⟩ := H
                          replace H : (some t146) = some r := H
                          have A29 := Aside0.mk A290
                          clear A290
                          obtain rfl := Option.some.inj H
                          obtain ⟨Ao30, co30, eo30⟩ := Kd.R_slice HO_8.out
                          subst eo30
                          go_wp2_with (first | (go_at_call 10; (with_reducible refine (dolmenlaw1_awake.calls k3  t146 _ A29.out).mono ?_); rintro e w31 ⟨rfl, hb⟩; have n0_ := Aside0.mk (Kd.R_below (by (with_reducible repeat (first | apply Kd.R_alloc | apply Kd.R_drewN | apply Kd.R_drew)); exact HO_5.out) hb); have n1_ := Aside0.mk (Kd.R_below (by (with_reducible repeat (first | apply Kd.R_alloc | apply Kd.R_drewN | apply Kd.R_drew)); exact HO_8.out) hb); have n2_ := Aside0.mk (below_step (by repeat (first | (with_reducible first | exact HB.out | apply below_alloc | apply pw_below_drewN | apply below_drew1) | exact HB.out)) hb); clear HO_5; clear HO_8; clear HB; have HO_5 := n0_; have HO_8 := n1_; have HB := n2_; clear n0_ n1_ n2_; (try clear hb); (try clear hb2); (try clear hk); (try clear hi)))
                          go_ret
                          exact ⟨by first | rfl | (simp [errW_none, errW_some] <;> rfl) | (simp only [← hji22]; first | rfl | (simp [errW_none, errW_some] <;> rfl)) | (simp [*, errW_none, errW_some] <;> rfl), by repeat (first | (with_reducible first | exact HB.out | apply below_alloc | apply pw_below_drewN | apply below_drew1) | exact HB.out)⟩
                        · rw [if_neg c28] at H
                          have c28b0 : ((wrap64 (Int.tdiv (wrap64 (a1 + 7)) 8)) == (t132.length : Int)) = false := beq_eq_false_iff_ne.mpr c28
                          have c28b1 : ((wrap64 (Int.tdiv (wrap64 (a1 + 7)) 8)) != (t132.length : Int)) = true := bne_iff_ne.mpr c28
                          obtain rfl := Option.some.inj H
                          obtain ⟨Ao32, co32, eo32⟩ := Kd.R_slice HO_8.out
                          subst eo32
                          go_wp2
                          go_ret
                          exact ⟨by first | rfl | (simp [errW_none, errW_some] <;> rfl) | (simp only [← hji22]; first | rfl | (simp [errW_none, errW_some] <;> rfl)) | (simp [*, errW_none, errW_some] <;> rfl), by repeat (first | (with_reducible first | exact HB.out | apply below_alloc | apply pw_below_drewN | apply below_drew1) | exact HB.out)⟩
                      · rw [if_neg c27] at H
                        have c27b0 : ((t140.length : Int) == a1) = false := beq_eq_false_iff_ne.mpr c27
                        have c27b1 : ((t140.length : Int) != a1) = true := bne_iff_ne.mpr c27
                        obtain rfl := Option.some.inj H
                        obtain ⟨Ao33, co33, eo33⟩ := Kd.R_slice HO_8.out
                        subst eo33
                        go_wp2
                        go_ret
                        exact ⟨by first | rfl | (simp [errW_none, errW_some] <;> rfl) | (simp only [← hji22]; first | rfl | (simp [errW_none, errW_some] <;> rfl)) | (simp [*, errW_none, errW_some] <;> rfl), by repeat (first | (with_reducible first | exact HB.out | apply below_alloc | apply pw_below_drewN | apply below_drew1) | exact HB.out)⟩
              · have H1 : (if (t140.length : Int) = 0 then ((dolmenalike_Code.f (some q144)).bind fun t147 => (if t147 = 14 then (if a1 = (l0.length : Int) then (some false) else ((dolmenlaw1_awake.f kj10).bind fun t148 => (some t148))) else (some false))) else (some false)) = some r := by rw [if_neg (show ¬ (some q144).isNone = true by simp)] at H; exact H
                clear H
                have H := H1
                clear H1
                try simp only [errW_none, errW_some]
                by_cases c34 : (t140.length : Int) = 0
                · rw [if_pos c34] at H
                  have c34b0 : ((t140.length : Int) == 0) = true := beq_iff_eq.mpr c34
                  have c34b1 : ((t140.length : Int) != 0) = false := bne_eq_false_iff_eq.mpr c34
                  clear c34
                  replace H := Option.bind_eq_some_iff.mp H
                  obtain ⟨t147, A350, H⟩ := H
                  replace H : (if t147 = 14 then (if a1 = (l0.length : Int) then (some false) else ((dolmenlaw1_awake.f kj10).bind fun t148 => (some t148))) else (some false)) = some r := H
                  have A35 := Aside0.mk A350
                  clear A350
                  by_cases c36 : t147 = 14
                  · rw [if_pos c36] at H
                    have c36b0 : (t147 == 14) = true := beq_iff_eq.mpr c36
                    have c36b1 : (t147 != 14) = false := bne_eq_false_iff_eq.mpr c36
                    clear c36
                    by_cases c37 : a1 = (l0.length : Int)
                    · rw [if_pos c37] at H
                      have c37b0 : (a1 == (l0.length : Int)) = true := beq_iff_eq.mpr c37
                      have c37b1 : (a1 != (l0.length : Int)) = false := bne_eq_false_iff_eq.mpr c37
                      clear c37
                      obtain rfl := Option.some.inj H
                      go_wp2_with (first | ((with_reducible refine gate_callee (f := 13) rfl ?_); refine goesL_ (some 53) rfl rfl Try.func13 (by kernel_rfl) rfl #[.slice Ao13 t132.length co13, .int .i64 a1] rfl (by (try simp only [List.map_toArray, List.map_cons, List.map_nil]); first | done | rfl | (simp only [List.length_drop, List.length_take]; rfl)) ?_; (with_reducible refine (bits_Bytes.calls kj10 _ _ t132 a1 t140 (some q144) _ ?side1 ?side2 A21.out).mono ?_); (case side1 => repeat (first | exact (Kd.R_reads' HO_5.out).2.2 | (with_reducible refine Kd.C_alloc ?_ _) | (with_reducible refine Kd.C_drewN ?_ _) | (with_reducible refine Kd.C_drew ?_))); (case side2 => exact (Kd.R_reads' HO_5.out).2.1); rintro e w38 ⟨v142, rfl, ho0, hb⟩; refine ⟨_, rfl, ?_⟩; have n0_ := Aside0.mk (Kd.R_below (by (with_reducible repeat (first | apply Kd.R_alloc | apply Kd.R_drewN | apply Kd.R_drew)); exact HO_5.out) hb); have n1_ := Aside0.mk (Kd.R_lower ho0 (below_size (by repeat (first | (with_reducible first | exact HB.out | apply below_alloc | apply pw_below_drewN | apply below_drew1) | exact HB.out)))); have n2_ := Aside0.mk (below_step (by repeat (first | (with_reducible first | exact HB.out | apply below_alloc | apply pw_below_drewN | apply below_drew1) | exact HB.out)) hb); clear HO_5; clear HB; have HO_5 := n0_; have HO143 := n1_; have HB := n2_; clear n0_ n1_ n2_; (try clear hb); (try clear hb2); (try clear hk); (try clear hi); (try clear ho0); (try simp only [errW_none, errW_some]); obtain ⟨Ao39, co39, eo39⟩ := Kd.R_slice HO143.out; subst eo39; have CA35 := fun W => dolmenalike_Code.calls (some q144) t147 W A35.out; try simp only [errW_none, errW_some] at CA35) | (go_at_call 15; (with_reducible refine (CA35 _).mono ?_); rintro e w' ⟨rfl, ⟨nd, rfl⟩⟩))
                      go_ret
                      exact ⟨by first | rfl | (simp [errW_none, errW_some] <;> rfl) | (simp [*, errW_none, errW_some] <;> rfl), by repeat (first | (with_reducible first | exact HB.out | apply below_alloc | apply pw_below_drewN | apply below_drew1) | exact HB.out)⟩
                    · rw [if_neg c37] at H
                      have c37b0 : (a1 == (l0.length : Int)) = false := beq_eq_false_iff_ne.mpr c37
                      have c37b1 : (a1 != (l0.length : Int)) = true := bne_iff_ne.mpr c37
                      replace H := Option.bind_eq_some_iff.mp H
                      obtain ⟨t148, A400, H⟩ := H
                      replace H : (some t148) = some r := H
                      have A40 := Aside0.mk A400
                      clear A400
                      obtain rfl := Option.some.inj H
                      go_wp2_with (first | ((with_reducible refine gate_callee (f := 13) rfl ?_); refine goesL_ (some 53) rfl rfl Try.func13 (by kernel_rfl) rfl #[.slice Ao13 t132.length co13, .int .i64 a1] rfl (by (try simp only [List.map_toArray, List.map_cons, List.map_nil]); first | done | rfl | (simp only [List.length_drop, List.length_take]; rfl)) ?_; (with_reducible refine (bits_Bytes.calls kj10 _ _ t132 a1 t140 (some q144) _ ?side1 ?side2 A21.out).mono ?_); (case side1 => repeat (first | exact (Kd.R_reads' HO_5.out).2.2 | (with_reducible refine Kd.C_alloc ?_ _) | (with_reducible refine Kd.C_drewN ?_ _) | (with_reducible refine Kd.C_drew ?_))); (case side2 => exact (Kd.R_reads' HO_5.out).2.1); rintro e w41 ⟨v142, rfl, ho0, hb⟩; refine ⟨_, rfl, ?_⟩; have n0_ := Aside0.mk (Kd.R_below (by (with_reducible repeat (first | apply Kd.R_alloc | apply Kd.R_drewN | apply Kd.R_drew)); exact HO_5.out) hb); have n1_ := Aside0.mk (Kd.R_lower ho0 (below_size (by repeat (first | (with_reducible first | exact HB.out | apply below_alloc | apply pw_below_drewN | apply below_drew1) | exact HB.out)))); have n2_ := Aside0.mk (below_step (by repeat (first | (with_reducible first | exact HB.out | apply below_alloc | apply pw_below_drewN | apply below_drew1) | exact HB.out)) hb); clear HO_5; clear HB; have HO_5 := n0_; have HO143 := n1_; have HB := n2_; clear n0_ n1_ n2_; (try clear hb); (try clear hb2); (try clear hk); (try clear hi); (try clear ho0); (try simp only [errW_none, errW_some]); obtain ⟨Ao42, co42, eo42⟩ := Kd.R_slice HO143.out; subst eo42; have CA35 := fun W => dolmenalike_Code.calls (some q144) t147 W A35.out; try simp only [errW_none, errW_some] at CA35) | (go_at_call 15; (with_reducible refine (CA35 _).mono ?_); rintro e w' ⟨rfl, ⟨nd, rfl⟩⟩) | (go_at_call 10; (with_reducible refine (dolmenlaw1_awake.calls kj10  t148 _ A40.out).mono ?_); rintro e w43 ⟨rfl, hb⟩; have n0_ := Aside0.mk (Kd.R_below (by (with_reducible repeat (first | apply Kd.R_alloc | apply Kd.R_drewN | apply Kd.R_drew)); exact HO_5.out) hb); have n1_ := Aside0.mk (Kd.R_below (by (with_reducible repeat (first | apply Kd.R_alloc | apply Kd.R_drewN | apply Kd.R_drew)); exact HO143.out) hb); have n2_ := Aside0.mk (below_step (by repeat (first | (with_reducible first | exact HB.out | apply below_alloc | apply pw_below_drewN | apply below_drew1) | exact HB.out)) hb); clear HO_5; clear HO143; clear HB; have HO_5 := n0_; have HO143 := n1_; have HB := n2_; clear n0_ n1_ n2_; (try clear hb); (try clear hb2); (try clear hk); (try clear hi)))
                      go_ret
                      exact ⟨by first | rfl | (simp [errW_none, errW_some] <;> rfl) | (simp [*, errW_none, errW_some] <;> rfl), by repeat (first | (with_reducible first | exact HB.out | apply below_alloc | apply pw_below_drewN | apply below_drew1) | exact HB.out)⟩
                  · rw [if_neg c36] at H
                    have c36b0 : (t147 == 14) = false := beq_eq_false_iff_ne.mpr c36
                    have c36b1 : (t147 != 14) = true := bne_iff_ne.mpr c36
                    obtain rfl := Option.some.inj H
                    go_wp2_with (first | ((with_reducible refine gate_callee (f := 13) rfl ?_); refine goesL_ (some 53) rfl rfl Try.func13 (by kernel_rfl) rfl #[.slice Ao13 t132.length co13, .int .i64 a1] rfl (by (try simp only [List.map_toArray, List.map_cons, List.map_nil]); first | done | rfl | (simp only [List.length_drop, List.length_take]; rfl)) ?_; (with_reducible refine (bits_Bytes.calls kj10 _ _ t132 a1 t140 (some q144) _ ?side1 ?side2 A21.out).mono ?_); (case side1 => repeat (first | exact (Kd.R_reads' HO_5.out).2.2 | (with_reducible refine Kd.C_alloc ?_ _) | (with_reducible refine Kd.C_drewN ?_ _) | (with_reducible refine Kd.C_drew ?_))); (case side2 => exact (Kd.R_reads' HO_5.out).2.1); rintro e w44 ⟨v142, rfl, ho0, hb⟩; refine ⟨_, rfl, ?_⟩; have n0_ := Aside0.mk (Kd.R_below (by (with_reducible repeat (first | apply Kd.R_alloc | apply Kd.R_drewN | apply Kd.R_drew)); exact HO_5.out) hb); have n1_ := Aside0.mk (Kd.R_lower ho0 (below_size (by repeat (first | (with_reducible first | exact HB.out | apply below_alloc | apply pw_below_drewN | apply below_drew1) | exact HB.out)))); have n2_ := Aside0.mk (below_step (by repeat (first | (with_reducible first | exact HB.out | apply below_alloc | apply pw_below_drewN | apply below_drew1) | exact HB.out)) hb); clear HO_5; clear HB; have HO_5 := n0_; have HO143 := n1_; have HB := n2_; clear n0_ n1_ n2_; (try clear hb); (try clear hb2); (try clear hk); (try clear hi); (try clear ho0); (try simp only [errW_none, errW_some]); obtain ⟨Ao45, co45, eo45⟩ := Kd.R_slice HO143.out; subst eo45; have CA35 := fun W => dolmenalike_Code.calls (some q144) t147 W A35.out; try simp only [errW_none, errW_some] at CA35) | (go_at_call 15; (with_reducible refine (CA35 _).mono ?_); rintro e w' ⟨rfl, ⟨nd, rfl⟩⟩))
                    go_ret
                    exact ⟨by first | rfl | (simp [errW_none, errW_some] <;> rfl) | (simp [*, errW_none, errW_some] <;> rfl), by repeat (first | (with_reducible first | exact HB.out | apply below_alloc | apply pw_below_drewN | apply below_drew1) | exact HB.out)⟩
                · rw [if_neg c34] at H
                  have c34b0 : ((t140.length : Int) == 0) = false := beq_eq_false_iff_ne.mpr c34
                  have c34b1 : ((t140.length : Int) != 0) = true := bne_iff_ne.mpr c34
                  have c34b2 : ¬ (t140 = []) := fun h_ => c34 (by rw [h_]; rfl)
                  obtain rfl := Option.some.inj H
                  go_wp2_with (first | ((with_reducible refine gate_callee (f := 13) rfl ?_); refine goesL_ (some 53) rfl rfl Try.func13 (by kernel_rfl) rfl #[.slice Ao13 t132.length co13, .int .i64 a1] rfl (by (try simp only [List.map_toArray, List.map_cons, List.map_nil]); first | done | rfl | (simp only [List.length_drop, List.length_take]; rfl)) ?_; (with_reducible refine (bits_Bytes.calls kj10 _ _ t132 a1 t140 (some q144) _ ?side1 ?side2 A21.out).mono ?_); (case side1 => repeat (first | exact (Kd.R_reads' HO_5.out).2.2 | (with_reducible refine Kd.C_alloc ?_ _) | (with_reducible refine Kd.C_drewN ?_ _) | (with_reducible refine Kd.C_drew ?_))); (case side2 => exact (Kd.R_reads' HO_5.out).2.1); rintro e w46 ⟨v142, rfl, ho0, hb⟩; refine ⟨_, rfl, ?_⟩; have n0_ := Aside0.mk (Kd.R_below (by (with_reducible repeat (first | apply Kd.R_alloc | apply Kd.R_drewN | apply Kd.R_drew)); exact HO_5.out) hb); have n1_ := Aside0.mk (Kd.R_lower ho0 (below_size (by repeat (first | (with_reducible first | exact HB.out | apply below_alloc | apply pw_below_drewN | apply below_drew1) | exact HB.out)))); have n2_ := Aside0.mk (below_step (by repeat (first | (with_reducible first | exact HB.out | apply below_alloc | apply pw_below_drewN | apply below_drew1) | exact HB.out)) hb); clear HO_5; clear HB; have HO_5 := n0_; have HO143 := n1_; have HB := n2_; clear n0_ n1_ n2_; (try clear hb); (try clear hb2); (try clear hk); (try clear hi); (try clear ho0); (try simp only [errW_none, errW_some]); obtain ⟨Ao47, co47, eo47⟩ := Kd.R_slice HO143.out; subst eo47))
                  go_ret
                  exact ⟨by first | rfl | (simp [errW_none, errW_some] <;> rfl) | (simp [*, errW_none, errW_some] <;> rfl), by repeat (first | (with_reducible first | exact HB.out | apply below_alloc | apply pw_below_drewN | apply below_drew1) | exact HB.out)⟩

/-- THE ONE PURE STATEMENT of dolmenlaw1_BitsBack: yours. -/
def dolmenlaw1_BitsBack.Pure : Prop := ∀ (l0 : List Int) (a1 : Int), l0.length ≤ maxLen → l0.length * 1 ≤ 140737488351232 → (∀ x ∈ l0, (Lit.int .u8 x).wf = true) → (Lit.int .i64 a1).wf = true → ∃ k, dolmenlaw1_BitsBack.f k l0 a1 = some true
theorem dolmenlaw1_BitsBack.walk (P : dolmenlaw1_BitsBack.Pure) (a0 : Option Addr) (len0 cap0 : Nat) (z0 : List Int) (a1 : Int) (w : World) (w0 : (a0 = none ∧ len0 = 0 ∧ cap0 = 0 ∧ z0 = []) ∨ ∃ x, a0 = some x ∧ len0 ≤ cap0 ∧ cap0 ≤ maxLen ∧ z0.length = cap0 ∧ (∀ i, i < z0.length → w.cell? (x.add i) = some (.int .u8 (z0.getD i 0))) ∧ ∀ n ∈ z0, (Lit.int .u8 n).wf = true) (y0 : len0 * 1 ≤ 140737488351232) (w1 : (Lit.int .i64 a1).wf = true) :
    Calls Try.prog 6 #[.slice a0 len0 cap0, .int .i64 a1] w fun e w' => e = .returned (.bool true) ∧ Below w.heap.size w w' := by
  obtain ⟨l0, rfl, hr0, hm0, hw0, hc0⟩ := ReadsInt.ofRowC w0
  obtain ⟨k, h⟩ := P l0 a1 hm0 y0 hw0 w1
  refine (dolmenlaw1_BitsBack.calls k _ _ l0 a1 true w (Kd.C_of_reads (d := (0 : Int)) (h1 := fun _ => rfl) hr0) hc0 h).mono ?_
  rintro e w' ⟨rfl, hd⟩
  exact ⟨rfl, hd⟩

end Go.Proofs.Ytfonkhikdaegpaa.PBitsBack
