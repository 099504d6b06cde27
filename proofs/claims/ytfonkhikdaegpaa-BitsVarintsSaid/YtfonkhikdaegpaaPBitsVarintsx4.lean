/- Functions of the given program told as plain Lean functions, and that the code does what they tell: written by a program of this session over the print of the kit, with some contracts proved by hand. Conditions: those typed at each theorem. -/
import Derived.Test.YtfonkhikdaegpaaPBitsVarintsx0
import Derived.Test.YtfonkhikdaegpaaPBitsVarintsx1
import Derived.Test.YtfonkhikdaegpaaPBitsVarintsx2
import Derived.Test.YtfonkhikdaegpaaPBitsVarintsx3
namespace Go.Proofs.Ytfonkhikdaegpaa.PBitsVarints
open Go.RowKit Go.Proofs.YtfonkhikdaegpaaW.PrintWords Go.Proofs.YtfonkhikdaegpaaW.PrintLast Go.Proofs.YtfonkhikdaegpaaW.PrintMore
attribute [local go_sem] max2_int min2_int max_two min_two max_three min_three max_four min_four   -- for this text's walks alone
set_option linter.unusedVariables false
set_option linter.unusedSimpArgs false

/-! ### dolmenlaw1_BitsVarints: function 7 -/
def dolmenlaw1_BitsVarints.j0 : Nat → Int → ByteArray → List Int → Bool → Option (Bool)
  | 0, _, _, _, _ => none
  | k + 1, x0, x1, x2, x24 => if x24 = true then ((dolmenlaw1_awake.f k).bind fun t153 => (some t153)) else ((bits_Unvarint.f k x2).bind fun bt154 => ((dolmenref1_Unvarint.f k x2).bind fun bt156 => ((bits_Untext.f k x2).bind fun bt158 => ((dolmenref1_Untext.f k x2).bind fun bt161 => ((bits_Varint.f k x0).bind fun t164 => ((dolmenref1_Varint.f k x0).bind fun t167 => (if (strOfNums t164).toList = (strOfNums t167).toList then ((bits_Text.f k x1).bind fun t170 => ((dolmenref1_Text.f k x1).bind fun t173 => (if (strOfNums t170).toList = (strOfNums t173).toList then (if bt154.1 = bt156.1 then (if bt154.2 = bt156.2 then (if bt158.1.toList = bt161.1.toList then (if bt158.2.1 = bt161.2.1 then ((dolmenalike_Code.f bt158.2.2).bind fun t176 => (if t176 = bt161.2.2 then ((dolmenlaw1_awake.f k).bind fun t177 => (some t177)) else (none))) else (none)) else (none)) else (none)) else (none)) else (none)))) else (none))))))))
def dolmenlaw1_BitsVarints.f (k : Nat) (a0 : Int) (a1 : ByteArray) (l2 : List Int) : Option (Bool) := if (a1.size : Int) > 2000 then (dolmenlaw1_BitsVarints.j0 k a0 a1 l2 true) else (dolmenlaw1_BitsVarints.j0 k a0 a1 l2 (decide ((l2.length : Int) > 2000)))
theorem dolmenlaw1_BitsVarints.mono_l : ∀ k, (∀ y0 y1 y2 y3, LeO (dolmenlaw1_BitsVarints.j0 k y0 y1 y2 y3) (dolmenlaw1_BitsVarints.j0 (k + 1) y0 y1 y2 y3))
  | 0 => fun _ _ _ _ r h => by simp [dolmenlaw1_BitsVarints.j0] at h
  | k + 1 => by
    have ih0 := dolmenlaw1_BitsVarints.mono_l k
    · intro y0 y1 y2 y3
      unfold dolmenlaw1_BitsVarints.j0
      repeat' first
      | (with_reducible exact ih0 _ _ _ _)
      | (with_reducible exact bits_Text.mono _ _)
      | (with_reducible exact bits_Untext.mono _ _)
      | (with_reducible exact bits_Unvarint.mono _ _)
      | (with_reducible exact bits_Varint.mono _ _)
      | (with_reducible exact dolmenlaw1_awake.mono _)
      | (with_reducible exact dolmenref1_Text.mono _ _)
      | (with_reducible exact dolmenref1_Untext.mono _ _)
      | (with_reducible exact dolmenref1_Unvarint.mono _ _)
      | (with_reducible exact dolmenref1_Varint.mono _ _)
      | (with_reducible exact LeO.refl _)
      | (with_reducible exact LeO.none _)
      | (with_reducible refine LeO.ite ?_ ?_)
      | (with_reducible refine LeO.bind ?_ (fun _ => ?_))
      | exact ih0 _ _ _ _
      | exact bits_Text.mono _ _
      | exact bits_Untext.mono _ _
      | exact bits_Unvarint.mono _ _
      | exact bits_Varint.mono _ _
      | exact dolmenlaw1_awake.mono _
      | exact dolmenref1_Text.mono _ _
      | exact dolmenref1_Untext.mono _ _
      | exact dolmenref1_Unvarint.mono _ _
      | exact dolmenref1_Varint.mono _ _
      | exact LeO.none _
      | refine LeO.ite ?_ ?_
      | refine LeO.bind ?_ (fun _ => ?_)
theorem dolmenlaw1_BitsVarints.mono : ∀ a0 a1 a2 k, LeO (dolmenlaw1_BitsVarints.f k a0 a1 a2) (dolmenlaw1_BitsVarints.f (k + 1) a0 a1 a2) := by
  intro a0 a1 a2 k
  have ih0 := dolmenlaw1_BitsVarints.mono_l k
  unfold dolmenlaw1_BitsVarints.f
  repeat' first
      | (with_reducible exact ih0 _ _ _ _)
      | (with_reducible exact bits_Text.mono _ _)
      | (with_reducible exact bits_Untext.mono _ _)
      | (with_reducible exact bits_Unvarint.mono _ _)
      | (with_reducible exact bits_Varint.mono _ _)
      | (with_reducible exact dolmenlaw1_awake.mono _)
      | (with_reducible exact dolmenref1_Text.mono _ _)
      | (with_reducible exact dolmenref1_Untext.mono _ _)
      | (with_reducible exact dolmenref1_Unvarint.mono _ _)
      | (with_reducible exact dolmenref1_Varint.mono _ _)
      | (with_reducible exact LeO.refl _)
      | (with_reducible exact LeO.none _)
      | (with_reducible refine LeO.ite ?_ ?_)
      | (with_reducible refine LeO.bind ?_ (fun _ => ?_))
      | exact ih0 _ _ _ _
      | exact bits_Text.mono _ _
      | exact bits_Untext.mono _ _
      | exact bits_Unvarint.mono _ _
      | exact bits_Varint.mono _ _
      | exact dolmenlaw1_awake.mono _
      | exact dolmenref1_Text.mono _ _
      | exact dolmenref1_Untext.mono _ _
      | exact dolmenref1_Unvarint.mono _ _
      | exact dolmenref1_Varint.mono _ _
      | exact LeO.none _
      | refine LeO.ite ?_ ?_
      | refine LeO.bind ?_ (fun _ => ?_)
def dolmenlaw1_BitsVarints.T7 : Bool × List (List Nat × List Nat) := (true, [([], []), ([0], [0]), ([1], [1]), ([], []), ([3, 1], [3]), ([4], [4]), ([2, 5], [2, 5]), ([6, 4], [6]), ([7], [7]), ([8, 7, 7], [7, 8]), ([9, 7], [7, 9]), ([7], [7]), ([11, 9, 7], [7, 11]), ([12, 7], [7, 12]), ([10, 13, 7], [7, 10, 13]), ([7, 14], [7, 14]), ([15, 12], [15]), ([16], [16]), ([16], [16]), ([17, 18, 16], [16, 17, 18]), ([16, 19], [16, 19]), ([20, 16], [20]), ([21], [21]), ([21], [21]), ([22, 23, 21], [21, 22, 23]), ([21, 24], [21, 24]), ([25, 21], [25]), ([26], [26]), ([26], [26]), ([27, 28, 26], [26, 27, 28]), ([26, 29], [26, 29]), ([30, 26], [30]), ([31], [31]), ([31], [31]), ([32, 33, 31], [31, 32, 33]), ([31, 34], [31, 34]), ([35, 31], [35]), ([36], [36]), ([37, 36, 36], [36, 37]), ([36], [36]), ([38, 39, 36], [36, 38, 39]), ([36, 40], [36, 40]), ([41, 38], [41]), ([42, 42], [42]), ([42, 43], [42, 43]), ([44, 43, 0, 1, 2, 3, 4, 5, 6, 7, 8, 9, 10, 11, 12, 13, 14, 15, 16, 17, 18, 19, 20, 21, 22, 23, 24, 25, 26, 27, 28, 29, 30, 31, 32, 33, 34, 35, 36, 37, 38, 39, 40, 41, 42, 43, 44], [44])])
def dolmenlaw1_BitsVarints.B7 : List Nat := [0, 1, 3, 0, 11, 27, 63, 127, 255, 511, 1023, 255, 3071, 7167, 16383, 32767, 65535, 131071, 131071, 524287, 1048575, 2097151, 4194303, 4194303, 16777215, 33554431, 67108863, 134217727, 134217727, 536870911, 1073741823, 2147483647, 4294967295, 4294967295, 17179869183, 34359738367, 68719476735, 137438953471, 274877906943, 137438953471, 1099511627775, 2199023255551, 4398046511103, 8796093022207, 17592186044415, 35184372088831]
theorem dolmenlaw1_BitsVarints.tab7 : rtab .any (opsOf Try.f7 7) = dolmenlaw1_BitsVarints.T7 := by kernel_rfl
theorem dolmenlaw1_BitsVarints.bits7 : waitsOk dolmenlaw1_BitsVarints.T7.2 dolmenlaw1_BitsVarints.B7 = true := by kernel_rfl
set_option maxHeartbeats 8000000 in
set_option maxRecDepth 100000 in
theorem dolmenlaw1_BitsVarints.calls (k : Nat) (a0 : Int) (a1 : ByteArray) (A2 : Option Addr) (c2 : Nat) (l2 : List Int) (r : Bool) (w : World) (hr2 : Kd.C (Kd.int .u8) w A2 l2.length l2) (hc2 : l2.length ≤ c2) (h : dolmenlaw1_BitsVarints.f k a0 a1 l2 = some r) :
    Calls Try.prog 7 #[.int .u64 a0, .string a1, .slice A2 l2.length c2] w fun e w' => e = .returned (.bool r) ∧ Below w.heap.size w w' := by
  have HR2 := Aside0.mk hr2
  have HC2 := Aside0.mk hc2
  clear hr2 hc2
  have HB := Aside0.mk (Below.refl w.heap.size w)
  have H : (if (a1.size : Int) > 2000 then (dolmenlaw1_BitsVarints.j0 k a0 a1 l2 true) else (dolmenlaw1_BitsVarints.j0 k a0 a1 l2 (decide ((l2.length : Int) > 2000)))) = some r := h
  clear h
  have HC4 := Aside0.mk H
  clear H
  go_enter Try.func7, Try.ntmps7
  go_upto_region 1 with (fail)
  go_cut [24] (fun v24 wc => ∃ (kq : Nat) (x24_3 : Bool), v24 = .bool x24_3 ∧ Aside0 (dolmenlaw1_BitsVarints.j0 kq a0 a1 l2 x24_3 = some r) ∧ Aside0 (kq ≤ k) ∧ Aside0 (Below w.heap.size w wc))
  case first =>
    have H := HC4.out
    clear HC4
    by_cases c5 : (a1.size : Int) > 2000
    · rw [if_pos c5] at H
      have c5b0 : decide (2000 < (a1.size : Int)) = true := decide_eq_true c5
      have c5b1 : decide (2000 < a1.size) = true := decide_eq_true (by omega)
      clear c5
      (first | rw [c5b0] | (simp only [i64_w, i32_w]; rw [c5b0]) | skip)
      have H' := Aside0.mk H
      clear H
      go_wp2
      go_meet
      case rel => exact ⟨_, (true), (by first | rfl | (simp; done) | (simp [*]; done)), H', ⟨by first | omega | exact Nat.le_refl _⟩, ⟨by repeat (first | (with_reducible first | exact HB.out | apply below_alloc | apply pw_below_drewN | apply below_drew1) | exact HB.out)⟩⟩
    · rw [if_neg c5] at H
      have c5b0 : decide (2000 < (a1.size : Int)) = false := decide_eq_false c5
      have c5b1 : decide (2000 < a1.size) = false := decide_eq_false (by omega)
      clear c5
      (first | rw [c5b0] | (simp only [i64_w, i32_w]; rw [c5b0]) | skip)
      have H' := Aside0.mk H
      clear H
      go_wp2
      go_meet
      case rel => exact ⟨_, (decide ((l2.length : Int) > 2000)), (by first | rfl | (simp; done) | (simp [*]; done)), H', ⟨by first | omega | exact Nat.le_refl _⟩, ⟨by repeat (first | (with_reducible first | exact HB.out | apply below_alloc | apply pw_below_drewN | apply below_drew1) | exact HB.out)⟩⟩
  case rest =>
    clear HC4
    try clear c2
    try clear p2
    try clear c5
    try clear c5b0
    try clear c5b1
    obtain ⟨kq, x24_3, rfl, HA, HJ3, HB⟩ := hcut
    cases kq with
    | zero => exact absurd HA.out (by simp [dolmenlaw1_BitsVarints.j0])
    | succ kj3 =>
      have H := HA.out
      clear HA
      simp only [dolmenlaw1_BitsVarints.j0] at H
      by_cases c6 : x24_3 = true
      · subst c6
        have H1 : ((dolmenlaw1_awake.f kj3).bind fun t153 => (some t153)) = some r := by rw [if_pos rfl] at H; exact H
        clear H
        have H := H1
        clear H1
        replace H := Option.bind_eq_some_iff.mp H
        obtain ⟨t153, A70, H⟩ := H
        replace H : (some t153) = some r := H
        have A7 := Aside0.mk A70
        clear A70
        obtain rfl := Option.some.inj H
        go_wp2_with (first | ((with_reducible refine gate_callee (f := 10) rfl ?_); refine goesL_ (some 25) rfl rfl Try.func10 (by kernel_rfl) rfl #[] rfl (by (try simp only [List.map_toArray, List.map_cons, List.map_nil]); first | done | rfl | (simp only [List.length_drop, List.length_take]; rfl)) ?_; (with_reducible refine (dolmenlaw1_awake.calls kj3  t153 _ A7.out).mono ?_); rintro e w8 ⟨rfl, hb⟩; refine ⟨_, rfl, ?_⟩; have n0_ := Aside0.mk (below_step (by repeat (first | (with_reducible first | exact HB.out | apply below_alloc | apply pw_below_drewN | apply below_drew1) | exact HB.out)) hb); clear HB; have HB := n0_; clear n0_; (try clear hb); (try clear hb2); (try clear hk); (try clear hi)))
        go_ret
        exact ⟨by first | rfl | (simp [errW_none, errW_some] <;> rfl) | (simp [*, errW_none, errW_some] <;> rfl), by repeat (first | (with_reducible first | exact HB.out | apply below_alloc | apply pw_below_drewN | apply below_drew1) | exact HB.out)⟩
      · replace c6 := Bool.eq_false_iff.mpr c6
        subst c6
        have H1 : ((bits_Unvarint.f kj3 l2).bind fun bt154 => ((dolmenref1_Unvarint.f kj3 l2).bind fun bt156 => ((bits_Untext.f kj3 l2).bind fun bt158 => ((dolmenref1_Untext.f kj3 l2).bind fun bt161 => ((bits_Varint.f kj3 a0).bind fun t164 => ((dolmenref1_Varint.f kj3 a0).bind fun t167 => (if (strOfNums t164).toList = (strOfNums t167).toList then ((bits_Text.f kj3 a1).bind fun t170 => ((dolmenref1_Text.f kj3 a1).bind fun t173 => (if (strOfNums t170).toList = (strOfNums t173).toList then (if bt154.1 = bt156.1 then (if bt154.2 = bt156.2 then (if bt158.1.toList = bt161.1.toList then (if bt158.2.1 = bt161.2.1 then ((dolmenalike_Code.f bt158.2.2).bind fun t176 => (if t176 = bt161.2.2 then ((dolmenlaw1_awake.f kj3).bind fun t177 => (some t177)) else (none))) else (none)) else (none)) else (none)) else (none)) else (none)))) else (none)))))))) = some r := by rw [if_neg (show ¬ (false = true) by decide)] at H; exact H
        clear H
        have H := H1
        clear H1
        replace H := Option.bind_eq_some_iff.mp H
        obtain ⟨⟨t154, t155⟩, A90, H⟩ := H
        replace H : ((dolmenref1_Unvarint.f kj3 l2).bind fun bt156 => ((bits_Untext.f kj3 l2).bind fun bt158 => ((dolmenref1_Untext.f kj3 l2).bind fun bt161 => ((bits_Varint.f kj3 a0).bind fun t164 => ((dolmenref1_Varint.f kj3 a0).bind fun t167 => (if (strOfNums t164).toList = (strOfNums t167).toList then ((bits_Text.f kj3 a1).bind fun t170 => ((dolmenref1_Text.f kj3 a1).bind fun t173 => (if (strOfNums t170).toList = (strOfNums t173).toList then (if t154 = bt156.1 then (if t155 = bt156.2 then (if bt158.1.toList = bt161.1.toList then (if bt158.2.1 = bt161.2.1 then ((dolmenalike_Code.f bt158.2.2).bind fun t176 => (if t176 = bt161.2.2 then ((dolmenlaw1_awake.f kj3).bind fun t177 => (some t177)) else (none))) else (none)) else (none)) else (none)) else (none)) else (none)))) else (none))))))) = some r := H
        have A9 := Aside0.mk A90
        clear A90
        replace H := Option.bind_eq_some_iff.mp H
        obtain ⟨⟨t156, t157⟩, A100, H⟩ := H
        replace H : ((bits_Untext.f kj3 l2).bind fun bt158 => ((dolmenref1_Untext.f kj3 l2).bind fun bt161 => ((bits_Varint.f kj3 a0).bind fun t164 => ((dolmenref1_Varint.f kj3 a0).bind fun t167 => (if (strOfNums t164).toList = (strOfNums t167).toList then ((bits_Text.f kj3 a1).bind fun t170 => ((dolmenref1_Text.f kj3 a1).bind fun t173 => (if (strOfNums t170).toList = (strOfNums t173).toList then (if t154 = t156 then (if t155 = t157 then (if bt158.1.toList = bt161.1.toList then (if bt158.2.1 = bt161.2.1 then ((dolmenalike_Code.f bt158.2.2).bind fun t176 => (if t176 = bt161.2.2 then ((dolmenlaw1_awake.f kj3).bind fun t177 => (some t177)) else (none))) else (none)) else (none)) else (none)) else (none)) else (none)))) else (none)))))) = some r := H
        have A10 := Aside0.mk A100
        clear A100
        replace H := Option.bind_eq_some_iff.mp H
        obtain ⟨⟨t158, t159, t160⟩, A110, H⟩ := H
        replace H : ((dolmenref1_Untext.f kj3 l2).bind fun bt161 => ((bits_Varint.f kj3 a0).bind fun t164 => ((dolmenref1_Varint.f kj3 a0).bind fun t167 => (if (strOfNums t164).toList = (strOfNums t167).toList then ((bits_Text.f kj3 a1).bind fun t170 => ((dolmenref1_Text.f kj3 a1).bind fun t173 => (if (strOfNums t170).toList = (strOfNums t173).toList then (if t154 = t156 then (if t155 = t157 then (if t158.toList = bt161.1.toList then (if t159 = bt161.2.1 then ((dolmenalike_Code.f t160).bind fun t176 => (if t176 = bt161.2.2 then ((dolmenlaw1_awake.f kj3).bind fun t177 => (some t177)) else (none))) else (none)) else (none)) else (none)) else (none)) else (none)))) else (none))))) = some r := H
        have A11 := Aside0.mk A110
        clear A110
        replace H := Option.bind_eq_some_iff.mp H
        obtain ⟨⟨t161, t162, t163⟩, A120, H⟩ := H
        replace H : ((bits_Varint.f kj3 a0).bind fun t164 => ((dolmenref1_Varint.f kj3 a0).bind fun t167 => (if (strOfNums t164).toList = (strOfNums t167).toList then ((bits_Text.f kj3 a1).bind fun t170 => ((dolmenref1_Text.f kj3 a1).bind fun t173 => (if (strOfNums t170).toList = (strOfNums t173).toList then (if t154 = t156 then (if t155 = t157 then (if t158.toList = t161.toList then (if t159 = t162 then ((dolmenalike_Code.f t160).bind fun t176 => (if t176 = t163 then ((dolmenlaw1_awake.f kj3).bind fun t177 => (some t177)) else (none))) else (none)) else (none)) else (none)) else (none)) else (none)))) else (none)))) = some r := H
        have A12 := Aside0.mk A120
        clear A120
        replace H := Option.bind_eq_some_iff.mp H
        obtain ⟨t164, A130, H⟩ := H
        replace H : ((dolmenref1_Varint.f kj3 a0).bind fun t167 => (if (strOfNums t164).toList = (strOfNums t167).toList then ((bits_Text.f kj3 a1).bind fun t170 => ((dolmenref1_Text.f kj3 a1).bind fun t173 => (if (strOfNums t170).toList = (strOfNums t173).toList then (if t154 = t156 then (if t155 = t157 then (if t158.toList = t161.toList then (if t159 = t162 then ((dolmenalike_Code.f t160).bind fun t176 => (if t176 = t163 then ((dolmenlaw1_awake.f kj3).bind fun t177 => (some t177)) else (none))) else (none)) else (none)) else (none)) else (none)) else (none)))) else (none))) = some r := H
        have A13 := Aside0.mk A130
        clear A130
        replace H := Option.bind_eq_some_iff.mp H
        obtain ⟨t167, A140, H⟩ := H
        replace H : (if (strOfNums t164).toList = (strOfNums t167).toList then ((bits_Text.f kj3 a1).bind fun t170 => ((dolmenref1_Text.f kj3 a1).bind fun t173 => (if (strOfNums t170).toList = (strOfNums t173).toList then (if t154 = t156 then (if t155 = t157 then (if t158.toList = t161.toList then (if t159 = t162 then ((dolmenalike_Code.f t160).bind fun t176 => (if t176 = t163 then ((dolmenlaw1_awake.f kj3).bind fun t177 => (some t177)) else (none))) else (none)) else (none)) else (none)) else (none)) else (none)))) else (none)) = some r := H
        have A14 := Aside0.mk A140
        clear A140
        by_cases c15 : (strOfNums t164).toList = (strOfNums t167).toList
        · rw [if_pos c15] at H
          have c15b0 : ((strOfNums t164).toList == (strOfNums t167).toList) = true := beq_iff_eq.mpr c15
          have c15b1 : ((strOfNums t164).toList != (strOfNums t167).toList) = false := bne_eq_false_iff_eq.mpr c15
          clear c15
          replace H := Option.bind_eq_some_iff.mp H
          obtain ⟨t170, A160, H⟩ := H
          replace H : ((dolmenref1_Text.f kj3 a1).bind fun t173 => (if (strOfNums t170).toList = (strOfNums t173).toList then (if t154 = t156 then (if t155 = t157 then (if t158.toList = t161.toList then (if t159 = t162 then ((dolmenalike_Code.f t160).bind fun t176 => (if t176 = t163 then ((dolmenlaw1_awake.f kj3).bind fun t177 => (some t177)) else (none))) else (none)) else (none)) else (none)) else (none)) else (none))) = some r := H
          have A16 := Aside0.mk A160
          clear A160
          replace H := Option.bind_eq_some_iff.mp H
          obtain ⟨t173, A170, H⟩ := H
          replace H : (if (strOfNums t170).toList = (strOfNums t173).toList then (if t154 = t156 then (if t155 = t157 then (if t158.toList = t161.toList then (if t159 = t162 then ((dolmenalike_Code.f t160).bind fun t176 => (if t176 = t163 then ((dolmenlaw1_awake.f kj3).bind fun t177 => (some t177)) else (none))) else (none)) else (none)) else (none)) else (none)) else (none)) = some r := H
          have A17 := Aside0.mk A170
          clear A170
          by_cases c18 : (strOfNums t170).toList = (strOfNums t173).toList
          · rw [if_pos c18] at H
            have c18b0 : ((strOfNums t170).toList == (strOfNums t173).toList) = true := beq_iff_eq.mpr c18
            have c18b1 : ((strOfNums t170).toList != (strOfNums t173).toList) = false := bne_eq_false_iff_eq.mpr c18
            clear c18
            by_cases c19 : t154 = t156
            · rw [if_pos c19] at H
              have c19b0 : (t154 == t156) = true := beq_iff_eq.mpr c19
              have c19b1 : (t154 != t156) = false := bne_eq_false_iff_eq.mpr c19
              clear c19
              by_cases c20 : t155 = t157
              · rw [if_pos c20] at H
                have c20b0 : (t155 == t157) = true := beq_iff_eq.mpr c20
                have c20b1 : (t155 != t157) = false := bne_eq_false_iff_eq.mpr c20
                clear c20
                by_cases c21 : t158.toList = t161.toList
                · rw [if_pos c21] at H
                  have c21b0 : (t158.toList == t161.toList) = true := beq_iff_eq.mpr c21
                  have c21b1 : (t158.toList != t161.toList) = false := bne_eq_false_iff_eq.mpr c21
                  clear c21
                  by_cases c22 : t159 = t162
                  · rw [if_pos c22] at H
                    have c22b0 : (t159 == t162) = true := beq_iff_eq.mpr c22
                    have c22b1 : (t159 != t162) = false := bne_eq_false_iff_eq.mpr c22
                    clear c22
                    replace H := Option.bind_eq_some_iff.mp H
                    obtain ⟨t176, A230, H⟩ := H
                    replace H : (if t176 = t163 then ((dolmenlaw1_awake.f kj3).bind fun t177 => (some t177)) else (none)) = some r := H
                    have A23 := Aside0.mk A230
                    clear A230
                    by_cases c24 : t176 = t163
                    · rw [if_pos c24] at H
                      have c24b0 : (t176 == t163) = true := beq_iff_eq.mpr c24
                      have c24b1 : (t176 != t163) = false := bne_eq_false_iff_eq.mpr c24
                      clear c24
                      replace H := Option.bind_eq_some_iff.mp H
                      obtain ⟨t177, A250, H⟩ := H
                      replace H : (some t177) = some r := H
                      have A25 := Aside0.mk A250
                      clear A250
                      obtain rfl := Option.some.inj H
                      try go_wp2_with (first | ((with_reducible refine gate_callee (f := 12) rfl ?_); refine goesL_ (some 28) rfl rfl Try.func12 (by kernel_rfl) rfl #[.slice A2 l2.length c2] rfl (by (try simp only [List.map_toArray, List.map_cons, List.map_nil]); first | done | rfl | (simp only [List.length_drop, List.length_take]; rfl)) ?_; (with_reducible refine (bits_Unvarint.calls kj3 _ _ l2 t154 t155 _ ?side1 ?side2 A9.out).mono ?_); (case side1 => repeat (first | exact (Kd.C_below HR2.out HB.out) | (with_reducible refine Kd.C_alloc ?_ _) | (with_reducible refine Kd.C_drewN ?_ _) | (with_reducible refine Kd.C_drew ?_))); (case side2 => exact HC2.out); rintro e w' ⟨rfl, ⟨nd, rfl⟩⟩; refine ⟨_, rfl, ?_⟩) | ((with_reducible refine gate_callee (f := 20) rfl ?_); refine goesL_ (some 33) rfl rfl Try.func20 (by kernel_rfl) rfl #[.slice A2 l2.length c2] rfl (by (try simp only [List.map_toArray, List.map_cons, List.map_nil]); first | done | rfl | (simp only [List.length_drop, List.length_take]; rfl)) ?_; (with_reducible refine (dolmenref1_Unvarint.calls kj3 _ _ l2 t156 t157 _ ?side1 ?side2 A10.out).mono ?_); (case side1 => repeat (first | exact (Kd.C_below HR2.out (by repeat (first | (with_reducible first | exact HB.out | apply below_alloc | apply pw_below_drewN | apply below_drew1) | exact HB.out))) | (with_reducible refine Kd.C_alloc ?_ _) | (with_reducible refine Kd.C_drewN ?_ _) | (with_reducible refine Kd.C_drew ?_))); (case side2 => exact HC2.out); rintro e w' ⟨rfl, ⟨nd, rfl⟩⟩; refine ⟨_, rfl, ?_⟩) | ((with_reducible refine gate_callee (f := 21) rfl ?_); refine goesL_ (some 38) rfl rfl Try.func21 (by kernel_rfl) rfl #[.slice A2 l2.length c2] rfl (by (try simp only [List.map_toArray, List.map_cons, List.map_nil]); first | done | rfl | (simp only [List.length_drop, List.length_take]; rfl)) ?_; (with_reducible refine (bits_Untext.calls kj3 _ _ l2 t158 t159 t160 _ ?side1 ?side2 A11.out).mono ?_); (case side1 => repeat (first | exact (Kd.C_below HR2.out (by repeat (first | (with_reducible first | exact HB.out | apply below_alloc | apply pw_below_drewN | apply below_drew1) | exact HB.out))) | (with_reducible refine Kd.C_alloc ?_ _) | (with_reducible refine Kd.C_drewN ?_ _) | (with_reducible refine Kd.C_drew ?_))); (case side2 => exact HC2.out); rintro e w' ⟨rfl, ⟨nd, rfl⟩⟩; refine ⟨_, rfl, ?_⟩; (try simp only [errW_none, errW_some])) | ((with_reducible refine gate_callee (f := 22) rfl ?_); refine goesL_ (some 44) rfl rfl Try.func22 (by kernel_rfl) rfl #[.slice A2 l2.length c2] rfl (by (try simp only [List.map_toArray, List.map_cons, List.map_nil]); first | done | rfl | (simp only [List.length_drop, List.length_take]; rfl)) ?_; (with_reducible refine (dolmenref1_Untext.calls kj3 _ _ l2 t161 t162 t163 _ ?side1 ?side2 A12.out).mono ?_); (case side1 => repeat (first | exact (Kd.C_below HR2.out (by repeat (first | (with_reducible first | exact HB.out | apply below_alloc | apply pw_below_drewN | apply below_drew1) | exact HB.out))) | (with_reducible refine Kd.C_alloc ?_ _) | (with_reducible refine Kd.C_drewN ?_ _) | (with_reducible refine Kd.C_drew ?_))); (case side2 => exact HC2.out); rintro e w' ⟨rfl, ⟨nd, rfl⟩⟩; refine ⟨_, rfl, ?_⟩))
                      (try (rw [drewN_self wc]; generalize hq_ : World.drewN wc _ = wc; have n0_ : Aside0 (Below w.heap.size w wc) := ⟨by rw [← hq_]; exact (by repeat (first | (with_reducible first | exact HB.out | apply below_alloc | apply pw_below_drewN | apply below_drew1) | exact HB.out))⟩; clear HB hq_; have HB := n0_; clear n0_))
                      have n0_ := Aside0.mk (below_drew1 HB.out)
                      clear HB
                      have HB := n0_
                      clear n0_
                      refine start_ (n := 46) (S := fun w' => True) (ds := []) #[false, false, false, false, false, false, false, false, false, false, false, false, false, false, false, false, false, false, false, false, false, false, false, false, false, false, false, false, false, false, false, false, false, false, false, false, false, false, false, false, false, false, false, false, false, false] (by kernel_rfl) rfl rfl trivial (fun hHeld => ?_); refine with_tabW dolmenlaw1_BitsVarints.tab7 dolmenlaw1_BitsVarints.bits7 (fun HT_ HW_ => ?_)
                      generalize wc.drew = w26 at HB hHeld ⊢
                      (try rw [c15b0]); (try rw [c18b0]); (try rw [c19b0]); (try rw [c20b0]); (try rw [c21b0]); (try rw [c22b0]); (try rw [c24b0])
                      refine pure_ (i := 0) (N := some 48) (v := ?_) (a' := ?_) #[true, false, false, false, false, false, false, false, false, false, false, false, false, false, false, false, false, false, false, false, false, false, false, false, false, false, false, false, false, false, false, false, false, false, false, false, false, false, false, false, false, false, false, false, false, false] rfl rfl (any_of HT_.out (by kernel_rfl)) (fun _ _ _ h => h) (Or.inl ⟨by rfl, ?_⟩) ?_ ?_
                      rotate_left
                      · intro w'
                        go_simp
                        with_reducible rfl
                      rotate_left
                      · simp only [Act.put, List.setIfInBounds_toArray, List.set_cons_zero, List.set_cons_succ, i64_w, i32_w]
                        rfl
                      (try rw [c15b0]); (try rw [c18b0]); (try rw [c19b0]); (try rw [c20b0]); (try rw [c21b0]); (try rw [c22b0]); (try rw [c24b0])
                      refine pure_ (i := 3) (N := some 51) (v := ?_) (a' := ?_) #[true, false, false, true, false, false, false, false, false, false, false, false, false, false, false, false, false, false, false, false, false, false, false, false, false, false, false, false, false, false, false, false, false, false, false, false, false, false, false, false, false, false, false, false, false, false] rfl rfl (any_of HT_.out (by kernel_rfl)) (fun _ _ _ h => h) (Or.inl ⟨by rfl, ?_⟩) ?_ ?_
                      rotate_left
                      · intro w'
                        go_simp
                        with_reducible rfl
                      rotate_left
                      · simp only [Act.put, List.setIfInBounds_toArray, List.set_cons_zero, List.set_cons_succ, i64_w, i32_w]
                        rfl
                      (try rw [c15b0]); (try rw [c18b0]); (try rw [c19b0]); (try rw [c20b0]); (try rw [c21b0]); (try rw [c22b0]); (try rw [c24b0])
                      refine one_ (i := 1) (N := some 49) #[true, true, false, true, false, false, false, false, false, false, false, false, false, false, false, false, false, false, false, false, false, false, false, false, false, false, false, false, false, false, false, false, false, false, false, false, false, false, false, false, false, false, false, false, false, false] rfl rfl (one_of HT_.out (by kernel_rfl)) (by decide) (fun K hK => ?_)
                      (try rw [c15b0]); (try rw [c18b0]); (try rw [c19b0]); (try rw [c20b0]); (try rw [c21b0]); (try rw [c22b0]); (try rw [c24b0])
                      refine goes_ Try.func11 (by kernel_rfl) rfl #[.int .u64 a0] (by rfl) rfl rfl (by (try simp only [List.map_toArray, List.map_cons, List.map_nil]); first | done | rfl | (simp only [List.length_drop, List.length_take]; rfl)) ?_
                      with_reducible refine (bits_Varint.calls kj3 a0 t164 _ A13.out).mono ?_
                      rintro e w27 ⟨v165, rfl, ho0, hb⟩
                      refine ⟨_, rfl, ?_⟩
                      have n0_ := Aside0.mk (Kd.R_lower ho0 (below_size (by repeat (first | (with_reducible first | exact HB.out | apply below_alloc | apply pw_below_drewN | apply below_drew1) | exact HB.out))))
                      have n1_ := Aside0.mk (below_step (by repeat (first | (with_reducible first | exact HB.out | apply below_alloc | apply pw_below_drewN | apply below_drew1) | exact HB.out)) hb)
                      clear HB
                      have HO166 := n0_
                      have HB := n1_
                      clear n0_ n1_
                      (try clear hb)
                      (try clear hb2)
                      (try clear hk)
                      (try clear hi)
                      (try clear ho0)
                      refine hK.out _ _ trivial (fun hHeld => ?_)
                      clear hK K
                      refine norm_ (a' := ?_) ?_ ?_
                      rotate_left
                      · show Act.put _ (some 49) _ = _
                        simp only [Act.put, List.setIfInBounds_toArray, List.set_cons_zero, List.set_cons_succ, i64_w, i32_w]
                        rfl
                      refine join_ (σ := Value × Value × Value) 32 #[true, true, true, true, true, true, true, true, true, true, true, true, true, true, false, false, false, false, false, false, false, false, false, false, false, false, false, false, false, false, false, false, false, false, false, false, false, false, false, false, false, false, false, false, false, false] (fun s_ => [(50, .string (strOfNums t164)), (52, s_.1), (53, .string (strOfNums t167)), (57, s_.2.1), (58, .string (strOfNums t170)), (60, s_.2.2), (61, .string (strOfNums t173)), (54, .bool ((strOfNums t164).toList == (strOfNums t167).toList)), (55, .bool ((strOfNums t164).toList == (strOfNums t167).toList)), (56, .string a1), (59, .string a1)]) (fun s_ w' => (Kd.R (Kd.int .u8) 5 w' w.heap.size (fun k_ => some k_ ≠ (s_.1 : Value).ownBlock ∧ some k_ ≠ (s_.2.1 : Value).ownBlock ∧ some k_ ≠ (s_.2.2 : Value).ownBlock) v165 t164) ∧ (Kd.R (Kd.int .u8) 5 w' w.heap.size (fun k_ => some k_ ≠ (v165 : Value).ownBlock ∧ some k_ ≠ (s_.2.1 : Value).ownBlock ∧ some k_ ≠ (s_.2.2 : Value).ownBlock) s_.1 t167) ∧ (Kd.R (Kd.int .u8) 5 w' w.heap.size (fun k_ => some k_ ≠ (v165 : Value).ownBlock ∧ some k_ ≠ (s_.1 : Value).ownBlock ∧ some k_ ≠ (s_.2.2 : Value).ownBlock) s_.2.1 t170) ∧ (Kd.R (Kd.int .u8) 5 w' w.heap.size (fun k_ => some k_ ≠ (v165 : Value).ownBlock ∧ some k_ ≠ (s_.1 : Value).ownBlock ∧ some k_ ≠ (s_.2.1 : Value).ownBlock) s_.2.2 t173) ∧ (Below w.heap.size w w')) ?_ ?_
                      rotate_left
                      · intro hJ2_4_5_9_10_12_13
                        refine join_ (σ := Value × Value × Value) 33 #[true, true, true, true, true, true, true, true, true, true, true, true, true, false, false, false, false, false, false, false, false, false, false, false, false, false, false, false, false, false, false, false, false, false, false, false, false, false, false, false, false, false, false, false, false, false] (fun s_ => [(50, .string (strOfNums t164)), (52, s_.1), (53, .string (strOfNums t167)), (57, s_.2.1), (58, .string (strOfNums t170)), (60, s_.2.2), (54, .bool ((strOfNums t164).toList == (strOfNums t167).toList)), (55, .bool ((strOfNums t164).toList == (strOfNums t167).toList)), (56, .string a1), (59, .string a1)]) (fun s_ w' => (Kd.R (Kd.int .u8) 5 w' w.heap.size (fun k_ => some k_ ≠ (s_.1 : Value).ownBlock ∧ some k_ ≠ (s_.2.1 : Value).ownBlock ∧ some k_ ≠ (s_.2.2 : Value).ownBlock) v165 t164) ∧ (Kd.R (Kd.int .u8) 5 w' w.heap.size (fun k_ => some k_ ≠ (v165 : Value).ownBlock ∧ some k_ ≠ (s_.2.1 : Value).ownBlock ∧ some k_ ≠ (s_.2.2 : Value).ownBlock) s_.1 t167) ∧ (Kd.R (Kd.int .u8) 5 w' w.heap.size (fun k_ => some k_ ≠ (v165 : Value).ownBlock ∧ some k_ ≠ (s_.1 : Value).ownBlock ∧ some k_ ≠ (s_.2.2 : Value).ownBlock) s_.2.1 t170) ∧ (Kd.R (Kd.int .u8) 5 w' w.heap.size (fun k_ => some k_ ≠ (v165 : Value).ownBlock ∧ some k_ ≠ (s_.1 : Value).ownBlock ∧ some k_ ≠ (s_.2.1 : Value).ownBlock) s_.2.2 t173) ∧ (Below w.heap.size w w')) ?_ ?_
                        rotate_left
                        · intro hJ2_4_5_9_10_12
                          refine join_ (σ := Value × Value × Value) 33 #[true, true, true, true, true, true, true, true, true, true, false, true, true, true, false, false, false, false, false, false, false, false, false, false, false, false, false, false, false, false, false, false, false, false, false, false, false, false, false, false, false, false, false, false, false, false] (fun s_ => [(50, .string (strOfNums t164)), (52, s_.1), (53, .string (strOfNums t167)), (57, s_.2.1), (60, s_.2.2), (61, .string (strOfNums t173)), (54, .bool ((strOfNums t164).toList == (strOfNums t167).toList)), (55, .bool ((strOfNums t164).toList == (strOfNums t167).toList)), (56, .string a1), (59, .string a1)]) (fun s_ w' => (Kd.R (Kd.int .u8) 5 w' w.heap.size (fun k_ => some k_ ≠ (s_.1 : Value).ownBlock ∧ some k_ ≠ (s_.2.1 : Value).ownBlock ∧ some k_ ≠ (s_.2.2 : Value).ownBlock) v165 t164) ∧ (Kd.R (Kd.int .u8) 5 w' w.heap.size (fun k_ => some k_ ≠ (v165 : Value).ownBlock ∧ some k_ ≠ (s_.2.1 : Value).ownBlock ∧ some k_ ≠ (s_.2.2 : Value).ownBlock) s_.1 t167) ∧ (Kd.R (Kd.int .u8) 5 w' w.heap.size (fun k_ => some k_ ≠ (v165 : Value).ownBlock ∧ some k_ ≠ (s_.1 : Value).ownBlock ∧ some k_ ≠ (s_.2.2 : Value).ownBlock) s_.2.1 t170) ∧ (Kd.R (Kd.int .u8) 5 w' w.heap.size (fun k_ => some k_ ≠ (v165 : Value).ownBlock ∧ some k_ ≠ (s_.1 : Value).ownBlock ∧ some k_ ≠ (s_.2.1 : Value).ownBlock) s_.2.2 t173) ∧ (Below w.heap.size w w')) ?_ ?_
                          rotate_left
                          · intro hJ2_4_5_9_12_13
                            refine join_ (σ := Value × Value) 34 #[true, true, true, true, true, true, true, true, true, true, true, true, false, false, false, false, false, false, false, false, false, false, false, false, false, false, false, false, false, false, false, false, false, false, false, false, false, false, false, false, false, false, false, false, false, false] (fun s_ => [(50, .string (strOfNums t164)), (52, s_.1), (53, .string (strOfNums t167)), (57, s_.2), (58, .string (strOfNums t170)), (54, .bool ((strOfNums t164).toList == (strOfNums t167).toList)), (55, .bool ((strOfNums t164).toList == (strOfNums t167).toList)), (56, .string a1), (59, .string a1)]) (fun s_ w' => (Kd.R (Kd.int .u8) 5 w' w.heap.size (fun k_ => some k_ ≠ (s_.1 : Value).ownBlock ∧ some k_ ≠ (s_.2 : Value).ownBlock) v165 t164) ∧ (Kd.R (Kd.int .u8) 5 w' w.heap.size (fun k_ => some k_ ≠ (v165 : Value).ownBlock ∧ some k_ ≠ (s_.2 : Value).ownBlock) s_.1 t167) ∧ (Kd.R (Kd.int .u8) 5 w' w.heap.size (fun k_ => some k_ ≠ (v165 : Value).ownBlock ∧ some k_ ≠ (s_.1 : Value).ownBlock) s_.2 t170) ∧ (Below w.heap.size w w')) ?_ ?_
                            rotate_left
                            · intro hJ2_4_5_9_10
                              refine join_ (σ := Value × Value × Value) 34 #[true, true, true, true, true, true, true, true, true, true, false, true, true, false, false, false, false, false, false, false, false, false, false, false, false, false, false, false, false, false, false, false, false, false, false, false, false, false, false, false, false, false, false, false, false, false] (fun s_ => [(50, .string (strOfNums t164)), (52, s_.1), (53, .string (strOfNums t167)), (57, s_.2.1), (60, s_.2.2), (54, .bool ((strOfNums t164).toList == (strOfNums t167).toList)), (55, .bool ((strOfNums t164).toList == (strOfNums t167).toList)), (56, .string a1), (59, .string a1)]) (fun s_ w' => (Kd.R (Kd.int .u8) 5 w' w.heap.size (fun k_ => some k_ ≠ (s_.1 : Value).ownBlock ∧ some k_ ≠ (s_.2.1 : Value).ownBlock ∧ some k_ ≠ (s_.2.2 : Value).ownBlock) v165 t164) ∧ (Kd.R (Kd.int .u8) 5 w' w.heap.size (fun k_ => some k_ ≠ (v165 : Value).ownBlock ∧ some k_ ≠ (s_.2.1 : Value).ownBlock ∧ some k_ ≠ (s_.2.2 : Value).ownBlock) s_.1 t167) ∧ (Kd.R (Kd.int .u8) 5 w' w.heap.size (fun k_ => some k_ ≠ (v165 : Value).ownBlock ∧ some k_ ≠ (s_.1 : Value).ownBlock ∧ some k_ ≠ (s_.2.2 : Value).ownBlock) s_.2.1 t170) ∧ (Kd.R (Kd.int .u8) 5 w' w.heap.size (fun k_ => some k_ ≠ (v165 : Value).ownBlock ∧ some k_ ≠ (s_.1 : Value).ownBlock ∧ some k_ ≠ (s_.2.1 : Value).ownBlock) s_.2.2 t173) ∧ (Below w.heap.size w w')) ?_ ?_
                              rotate_left
                              · intro hJ2_4_5_9_12
                                refine join_ (σ := Value × Value) 35 #[true, true, true, true, true, true, true, true, true, true, false, true, false, false, false, false, false, false, false, false, false, false, false, false, false, false, false, false, false, false, false, false, false, false, false, false, false, false, false, false, false, false, false, false, false, false] (fun s_ => [(50, .string (strOfNums t164)), (52, s_.1), (53, .string (strOfNums t167)), (57, s_.2), (54, .bool ((strOfNums t164).toList == (strOfNums t167).toList)), (55, .bool ((strOfNums t164).toList == (strOfNums t167).toList)), (56, .string a1), (59, .string a1)]) (fun s_ w' => (Kd.R (Kd.int .u8) 5 w' w.heap.size (fun k_ => some k_ ≠ (s_.1 : Value).ownBlock ∧ some k_ ≠ (s_.2 : Value).ownBlock) v165 t164) ∧ (Kd.R (Kd.int .u8) 5 w' w.heap.size (fun k_ => some k_ ≠ (v165 : Value).ownBlock ∧ some k_ ≠ (s_.2 : Value).ownBlock) s_.1 t167) ∧ (Kd.R (Kd.int .u8) 5 w' w.heap.size (fun k_ => some k_ ≠ (v165 : Value).ownBlock ∧ some k_ ≠ (s_.1 : Value).ownBlock) s_.2 t170) ∧ (Below w.heap.size w w')) ?_ ?_
                                rotate_left
                                · intro hJ2_4_5_9
                                  refine join_ (σ := Value) 36 #[true, true, true, true, true, true, true, true, true, false, false, true, false, false, false, false, false, false, false, false, false, false, false, false, false, false, false, false, false, false, false, false, false, false, false, false, false, false, false, false, false, false, false, false, false, false] (fun s_ => [(50, .string (strOfNums t164)), (52, s_), (53, .string (strOfNums t167)), (54, .bool ((strOfNums t164).toList == (strOfNums t167).toList)), (55, .bool ((strOfNums t164).toList == (strOfNums t167).toList)), (56, .string a1), (59, .string a1)]) (fun s_ w' => (Kd.R (Kd.int .u8) 5 w' w.heap.size (fun k_ => some k_ ≠ (s_ : Value).ownBlock) v165 t164) ∧ (Kd.R (Kd.int .u8) 5 w' w.heap.size (fun k_ => some k_ ≠ (v165 : Value).ownBlock) s_ t167) ∧ (Below w.heap.size w w')) ?_ ?_
                                  rotate_left
                                  · intro hJ2_4_5
                                    refine join_ (σ := Value) 41 #[true, true, true, true, true, false, false, false, false, false, false, false, false, false, false, false, false, false, false, false, false, false, false, false, false, false, false, false, false, false, false, false, false, false, false, false, false, false, false, false, false, false, false, false, false, false] (fun s_ => [(50, .string (strOfNums t164)), (52, s_)]) (fun s_ w' => (Kd.R (Kd.int .u8) 5 w' w.heap.size (fun k_ => some k_ ≠ (s_ : Value).ownBlock) v165 t164) ∧ (Kd.R (Kd.int .u8) 5 w' w.heap.size (fun k_ => some k_ ≠ (v165 : Value).ownBlock) s_ t167) ∧ (Below w.heap.size w w')) ?_ ?_
                                    rotate_left
                                    · intro hJ2_4
                                      refine join_ (σ := Value) 41 #[true, true, false, true, true, true, false, false, false, false, false, false, false, false, false, false, false, false, false, false, false, false, false, false, false, false, false, false, false, false, false, false, false, false, false, false, false, false, false, false, false, false, false, false, false, false] (fun s_ => [(52, s_), (53, .string (strOfNums t167))]) (fun s_ w' => (Kd.R (Kd.int .u8) 5 w' w.heap.size (fun k_ => some k_ ≠ (s_ : Value).ownBlock) v165 t164) ∧ (Kd.R (Kd.int .u8) 5 w' w.heap.size (fun k_ => some k_ ≠ (v165 : Value).ownBlock) s_ t167) ∧ (Below w.heap.size w w')) ?_ ?_
                                      rotate_left
                                      · intro hJ4_5
                                        refine join_ (σ := Unit) 42 #[true, true, true, true, false, false, false, false, false, false, false, false, false, false, false, false, false, false, false, false, false, false, false, false, false, false, false, false, false, false, false, false, false, false, false, false, false, false, false, false, false, false, false, false, false, false] (fun s_ => [(50, .string (strOfNums t164))]) (fun s_ w' => (Kd.R (Kd.int .u8) 5 w' w.heap.size (fun _ => True) v165 t164) ∧ (Below w.heap.size w w')) ?_ ?_
                                        rotate_left
                                        · intro hJ2
                                          refine join_ (σ := Value) 42 #[true, true, false, true, true, false, false, false, false, false, false, false, false, false, false, false, false, false, false, false, false, false, false, false, false, false, false, false, false, false, false, false, false, false, false, false, false, false, false, false, false, false, false, false, false, false] (fun s_ => [(52, s_)]) (fun s_ w' => (Kd.R (Kd.int .u8) 5 w' w.heap.size (fun k_ => some k_ ≠ (s_ : Value).ownBlock) v165 t164) ∧ (Kd.R (Kd.int .u8) 5 w' w.heap.size (fun k_ => some k_ ≠ (v165 : Value).ownBlock) s_ t167) ∧ (Below w.heap.size w w')) ?_ ?_
                                          rotate_left
                                          · intro hJ4
                                            (try rw [c15b0]); (try rw [c18b0]); (try rw [c19b0]); (try rw [c20b0]); (try rw [c21b0]); (try rw [c22b0]); (try rw [c24b0])
                                            refine two_ (i := 2) (j := 4) (Ni := some 50) (Nj := some 52) #[true, true, true, true, false, false, false, false, false, false, false, false, false, false, false, false, false, false, false, false, false, false, false, false, false, false, false, false, false, false, false, false, false, false, false, false, false, false, false, false, false, false, false, false, false, false] #[true, true, false, true, true, false, false, false, false, false, false, false, false, false, false, false, false, false, false, false, false, false, false, false, false, false, false, false, false, false, false, false, false, false, false, false, false, false, false, false, false, false, false, false, false, false] rfl rfl rfl rfl (two_of HT_.out (by kernel_rfl)) (by decide) (by decide) (fun K hK => ?_) (fun K hK => ?_)
                                            · skip
                                              have hcv28 := own_string (P := Try.prog) Try.underlying27 Try.underlying5 Try.underlying9 (Kd.own_of_R HO166.out); have hcv28d := fun n_ => own_string (P := Try.prog) Try.underlying27 Try.underlying5 Try.underlying9 (Kd.own_of_R (Kd.R_drewN HO166.out n_))
                                              (try rw [c15b0]); (try rw [c18b0]); (try rw [c19b0]); (try rw [c20b0]); (try rw [c21b0]); (try rw [c22b0]); (try rw [c24b0])
                                              refine value_ (w1 := ?_) (v := ?_) (by rfl) rfl ?_ ?_
                                              rotate_left 2
                                              · go_simp
                                                constructor
                                                · rfl
                                                · rfl
                                              clear hcv28
                                              refine hK.out _ _ trivial (fun hHeld => ?_)
                                              clear hK K
                                              refine norm_ (a' := ?_) ?_ ?_
                                              rotate_left
                                              · show Act.put _ (some 50) _ = _
                                                simp only [Act.put, List.setIfInBounds_toArray, List.set_cons_zero, List.set_cons_succ, i64_w, i32_w]
                                                rfl
                                              exact norm_ (by first | (simp only [putAll, Act.put, List.setIfInBounds_toArray, List.set_cons_zero, List.set_cons_succ]; done) | (simp only [putAll, Act.put, List.setIfInBounds_toArray, List.set_cons_zero, List.set_cons_succ]; rfl) | (simp only [putAll, Act.put, List.setIfInBounds_toArray, List.set_cons_zero, List.set_cons_succ, c15b0]; done) | (simp only [putAll, Act.put, List.setIfInBounds_toArray, List.set_cons_zero, List.set_cons_succ, c15b0]; rfl) | (simp only [putAll, Act.put, List.setIfInBounds_toArray, List.set_cons_zero, List.set_cons_succ, c15b0, c18b0]; done) | (simp only [putAll, Act.put, List.setIfInBounds_toArray, List.set_cons_zero, List.set_cons_succ, c15b0, c18b0]; rfl) | (simp only [putAll, Act.put, List.setIfInBounds_toArray, List.set_cons_zero, List.set_cons_succ, c15b0, c18b0, c19b0]; done) | (simp only [putAll, Act.put, List.setIfInBounds_toArray, List.set_cons_zero, List.set_cons_succ, c15b0, c18b0, c19b0]; rfl) | (simp only [putAll, Act.put, List.setIfInBounds_toArray, List.set_cons_zero, List.set_cons_succ, c15b0, c18b0, c19b0, c20b0]; done) | (simp only [putAll, Act.put, List.setIfInBounds_toArray, List.set_cons_zero, List.set_cons_succ, c15b0, c18b0, c19b0, c20b0]; rfl) | (simp only [putAll, Act.put, List.setIfInBounds_toArray, List.set_cons_zero, List.set_cons_succ, c15b0, c18b0, c19b0, c20b0, c21b0]; done) | (simp only [putAll, Act.put, List.setIfInBounds_toArray, List.set_cons_zero, List.set_cons_succ, c15b0, c18b0, c19b0, c20b0, c21b0]; rfl) | (simp only [putAll, Act.put, List.setIfInBounds_toArray, List.set_cons_zero, List.set_cons_succ, c15b0, c18b0, c19b0, c20b0, c21b0, c22b0]; done) | (simp only [putAll, Act.put, List.setIfInBounds_toArray, List.set_cons_zero, List.set_cons_succ, c15b0, c18b0, c19b0, c20b0, c21b0, c22b0]; rfl) | (simp only [putAll, Act.put, List.setIfInBounds_toArray, List.set_cons_zero, List.set_cons_succ, c15b0, c18b0, c19b0, c20b0, c21b0, c22b0, c24b0]; done) | (simp only [putAll, Act.put, List.setIfInBounds_toArray, List.set_cons_zero, List.set_cons_succ, c15b0, c18b0, c19b0, c20b0, c21b0, c22b0, c24b0]; rfl)) (hJ2 () _ ⟨(by (with_reducible repeat (first | apply Kd.R_alloc | apply Kd.R_drewN | apply Kd.R_drew)); exact HO166.out), (by repeat (first | (with_reducible first | exact HB.out | apply below_alloc | apply pw_below_drewN | apply below_drew1) | exact HB.out))⟩)
                                            · skip
                                              (try rw [c15b0]); (try rw [c18b0]); (try rw [c19b0]); (try rw [c20b0]); (try rw [c21b0]); (try rw [c22b0]); (try rw [c24b0])
                                              refine goes_ Try.func23 (by kernel_rfl) rfl #[.int .u64 a0] (by rfl) rfl rfl (by (try simp only [List.map_toArray, List.map_cons, List.map_nil]); first | done | rfl | (simp only [List.length_drop, List.length_take]; rfl)) ?_
                                              with_reducible refine (dolmenref1_Varint.calls kj3 a0 t167 _ A14.out).mono ?_
                                              rintro e w28 ⟨v168, rfl, ho0, hb⟩
                                              refine ⟨_, rfl, ?_⟩
                                              have n0_ := Aside0.mk (Kd.R_elder' (by (with_reducible repeat (first | apply Kd.R_alloc | apply Kd.R_drewN | apply Kd.R_drew)); exact HO166.out) (Kd.R_base ho0) hb)
                                              have n1_ := Aside0.mk (Kd.R_lower (Kd.R_new' ho0 (Kd.R_lt (by (with_reducible repeat (first | apply Kd.R_alloc | apply Kd.R_drewN | apply Kd.R_drew)); exact HO166.out))) (below_size (by repeat (first | (with_reducible first | exact HB.out | apply below_alloc | apply pw_below_drewN | apply below_drew1) | exact HB.out))))
                                              have n2_ := Aside0.mk (below_step (by repeat (first | (with_reducible first | exact HB.out | apply below_alloc | apply pw_below_drewN | apply below_drew1) | exact HB.out)) hb)
                                              clear HO166
                                              clear HB
                                              have HO166 := n0_
                                              have HO169 := n1_
                                              have HB := n2_
                                              clear n0_ n1_ n2_
                                              (try clear hb)
                                              (try clear hb2)
                                              (try clear hk)
                                              (try clear hi)
                                              (try clear ho0)
                                              refine hK.out _ _ trivial (fun hHeld => ?_)
                                              clear hK K
                                              refine norm_ (a' := ?_) ?_ ?_
                                              rotate_left
                                              · show Act.put _ (some 52) _ = _
                                                simp only [Act.put, List.setIfInBounds_toArray, List.set_cons_zero, List.set_cons_succ, i64_w, i32_w]
                                                rfl
                                              exact norm_ (by first | (simp only [putAll, Act.put, List.setIfInBounds_toArray, List.set_cons_zero, List.set_cons_succ]; done) | (simp only [putAll, Act.put, List.setIfInBounds_toArray, List.set_cons_zero, List.set_cons_succ]; rfl) | (simp only [putAll, Act.put, List.setIfInBounds_toArray, List.set_cons_zero, List.set_cons_succ, c15b0]; done) | (simp only [putAll, Act.put, List.setIfInBounds_toArray, List.set_cons_zero, List.set_cons_succ, c15b0]; rfl) | (simp only [putAll, Act.put, List.setIfInBounds_toArray, List.set_cons_zero, List.set_cons_succ, c15b0, c18b0]; done) | (simp only [putAll, Act.put, List.setIfInBounds_toArray, List.set_cons_zero, List.set_cons_succ, c15b0, c18b0]; rfl) | (simp only [putAll, Act.put, List.setIfInBounds_toArray, List.set_cons_zero, List.set_cons_succ, c15b0, c18b0, c19b0]; done) | (simp only [putAll, Act.put, List.setIfInBounds_toArray, List.set_cons_zero, List.set_cons_succ, c15b0, c18b0, c19b0]; rfl) | (simp only [putAll, Act.put, List.setIfInBounds_toArray, List.set_cons_zero, List.set_cons_succ, c15b0, c18b0, c19b0, c20b0]; done) | (simp only [putAll, Act.put, List.setIfInBounds_toArray, List.set_cons_zero, List.set_cons_succ, c15b0, c18b0, c19b0, c20b0]; rfl) | (simp only [putAll, Act.put, List.setIfInBounds_toArray, List.set_cons_zero, List.set_cons_succ, c15b0, c18b0, c19b0, c20b0, c21b0]; done) | (simp only [putAll, Act.put, List.setIfInBounds_toArray, List.set_cons_zero, List.set_cons_succ, c15b0, c18b0, c19b0, c20b0, c21b0]; rfl) | (simp only [putAll, Act.put, List.setIfInBounds_toArray, List.set_cons_zero, List.set_cons_succ, c15b0, c18b0, c19b0, c20b0, c21b0, c22b0]; done) | (simp only [putAll, Act.put, List.setIfInBounds_toArray, List.set_cons_zero, List.set_cons_succ, c15b0, c18b0, c19b0, c20b0, c21b0, c22b0]; rfl) | (simp only [putAll, Act.put, List.setIfInBounds_toArray, List.set_cons_zero, List.set_cons_succ, c15b0, c18b0, c19b0, c20b0, c21b0, c22b0, c24b0]; done) | (simp only [putAll, Act.put, List.setIfInBounds_toArray, List.set_cons_zero, List.set_cons_succ, c15b0, c18b0, c19b0, c20b0, c21b0, c22b0, c24b0]; rfl)) (hJ4 (v168) _ ⟨(by (with_reducible repeat (first | apply Kd.R_alloc | apply Kd.R_drewN | apply Kd.R_drew)); exact Kd.R_mono HO166.out (fun _ hk => hk.2)), (by (with_reducible repeat (first | apply Kd.R_alloc | apply Kd.R_drewN | apply Kd.R_drew)); exact Kd.R_mono HO169.out (fun _ hk => hk.2)), (by repeat (first | (with_reducible first | exact HB.out | apply below_alloc | apply pw_below_drewN | apply below_drew1) | exact HB.out))⟩)
                                          · skip
                                            rintro v168 w29 ⟨h0_, h1_, h2_⟩
                                            have n0_ : Aside0 (Kd.R (Kd.int .u8) 5 w29 w.heap.size (fun k_ => some k_ ≠ (v168 : Value).ownBlock) v165 t164) := ⟨h0_⟩
                                            have n1_ : Aside0 (Kd.R (Kd.int .u8) 5 w29 w.heap.size (fun k_ => some k_ ≠ (v165 : Value).ownBlock) v168 t167) := ⟨h1_⟩
                                            have n2_ : Aside0 (Below w.heap.size w w29) := ⟨h2_⟩
                                            clear HB
                                            clear h0_ h1_ h2_
                                            have HO166 := n0_
                                            have HO169 := n1_
                                            have HB := n2_
                                            clear n0_ n1_ n2_
                                            have hHeld := trivial
                                            refine norm_ (a' := ?_) ?_ ?_
                                            rotate_left
                                            · simp only [putAll, Act.put, List.setIfInBounds_toArray, List.set_cons_zero, List.set_cons_succ]
                                              rfl
                                            (try rw [c15b0]); (try rw [c18b0]); (try rw [c19b0]); (try rw [c20b0]); (try rw [c21b0]); (try rw [c22b0]); (try rw [c24b0])
                                            refine two_ (i := 2) (j := 5) (Ni := some 50) (Nj := some 53) #[true, true, true, true, true, false, false, false, false, false, false, false, false, false, false, false, false, false, false, false, false, false, false, false, false, false, false, false, false, false, false, false, false, false, false, false, false, false, false, false, false, false, false, false, false, false] #[true, true, false, true, true, true, false, false, false, false, false, false, false, false, false, false, false, false, false, false, false, false, false, false, false, false, false, false, false, false, false, false, false, false, false, false, false, false, false, false, false, false, false, false, false, false] rfl rfl rfl rfl (two_of HT_.out (by kernel_rfl)) (by decide) (by decide) (fun K hK => ?_) (fun K hK => ?_)
                                            · skip
                                              have hcv30 := own_string (P := Try.prog) Try.underlying27 Try.underlying5 Try.underlying9 (Kd.own_of_R HO166.out); have hcv30d := fun n_ => own_string (P := Try.prog) Try.underlying27 Try.underlying5 Try.underlying9 (Kd.own_of_R (Kd.R_drewN HO166.out n_))
                                              (try rw [c15b0]); (try rw [c18b0]); (try rw [c19b0]); (try rw [c20b0]); (try rw [c21b0]); (try rw [c22b0]); (try rw [c24b0])
                                              refine value_ (w1 := ?_) (v := ?_) (by rfl) rfl ?_ ?_
                                              rotate_left 2
                                              · go_simp
                                                constructor
                                                · rfl
                                                · rfl
                                              clear hcv30
                                              refine hK.out _ _ trivial (fun hHeld => ?_)
                                              clear hK K
                                              refine norm_ (a' := ?_) ?_ ?_
                                              rotate_left
                                              · show Act.put _ (some 50) _ = _
                                                simp only [Act.put, List.setIfInBounds_toArray, List.set_cons_zero, List.set_cons_succ, i64_w, i32_w]
                                                rfl
                                              exact norm_ (by first | (simp only [putAll, Act.put, List.setIfInBounds_toArray, List.set_cons_zero, List.set_cons_succ]; done) | (simp only [putAll, Act.put, List.setIfInBounds_toArray, List.set_cons_zero, List.set_cons_succ]; rfl) | (simp only [putAll, Act.put, List.setIfInBounds_toArray, List.set_cons_zero, List.set_cons_succ, c15b0]; done) | (simp only [putAll, Act.put, List.setIfInBounds_toArray, List.set_cons_zero, List.set_cons_succ, c15b0]; rfl) | (simp only [putAll, Act.put, List.setIfInBounds_toArray, List.set_cons_zero, List.set_cons_succ, c15b0, c18b0]; done) | (simp only [putAll, Act.put, List.setIfInBounds_toArray, List.set_cons_zero, List.set_cons_succ, c15b0, c18b0]; rfl) | (simp only [putAll, Act.put, List.setIfInBounds_toArray, List.set_cons_zero, List.set_cons_succ, c15b0, c18b0, c19b0]; done) | (simp only [putAll, Act.put, List.setIfInBounds_toArray, List.set_cons_zero, List.set_cons_succ, c15b0, c18b0, c19b0]; rfl) | (simp only [putAll, Act.put, List.setIfInBounds_toArray, List.set_cons_zero, List.set_cons_succ, c15b0, c18b0, c19b0, c20b0]; done) | (simp only [putAll, Act.put, List.setIfInBounds_toArray, List.set_cons_zero, List.set_cons_succ, c15b0, c18b0, c19b0, c20b0]; rfl) | (simp only [putAll, Act.put, List.setIfInBounds_toArray, List.set_cons_zero, List.set_cons_succ, c15b0, c18b0, c19b0, c20b0, c21b0]; done) | (simp only [putAll, Act.put, List.setIfInBounds_toArray, List.set_cons_zero, List.set_cons_succ, c15b0, c18b0, c19b0, c20b0, c21b0]; rfl) | (simp only [putAll, Act.put, List.setIfInBounds_toArray, List.set_cons_zero, List.set_cons_succ, c15b0, c18b0, c19b0, c20b0, c21b0, c22b0]; done) | (simp only [putAll, Act.put, List.setIfInBounds_toArray, List.set_cons_zero, List.set_cons_succ, c15b0, c18b0, c19b0, c20b0, c21b0, c22b0]; rfl) | (simp only [putAll, Act.put, List.setIfInBounds_toArray, List.set_cons_zero, List.set_cons_succ, c15b0, c18b0, c19b0, c20b0, c21b0, c22b0, c24b0]; done) | (simp only [putAll, Act.put, List.setIfInBounds_toArray, List.set_cons_zero, List.set_cons_succ, c15b0, c18b0, c19b0, c20b0, c21b0, c22b0, c24b0]; rfl)) (hJ2_4 (v168) _ ⟨(by (with_reducible repeat (first | apply Kd.R_alloc | apply Kd.R_drewN | apply Kd.R_drew)); exact HO166.out), (by (with_reducible repeat (first | apply Kd.R_alloc | apply Kd.R_drewN | apply Kd.R_drew)); exact HO169.out), (by repeat (first | (with_reducible first | exact HB.out | apply below_alloc | apply pw_below_drewN | apply below_drew1) | exact HB.out))⟩)
                                            · skip
                                              have hcv30 := own_string (P := Try.prog) Try.underlying27 Try.underlying5 Try.underlying9 (Kd.own_of_R HO169.out); have hcv30d := fun n_ => own_string (P := Try.prog) Try.underlying27 Try.underlying5 Try.underlying9 (Kd.own_of_R (Kd.R_drewN HO169.out n_))
                                              (try rw [c15b0]); (try rw [c18b0]); (try rw [c19b0]); (try rw [c20b0]); (try rw [c21b0]); (try rw [c22b0]); (try rw [c24b0])
                                              refine value_ (w1 := ?_) (v := ?_) (by rfl) rfl ?_ ?_
                                              rotate_left 2
                                              · go_simp
                                                constructor
                                                · rfl
                                                · rfl
                                              clear hcv30
                                              refine hK.out _ _ trivial (fun hHeld => ?_)
                                              clear hK K
                                              refine norm_ (a' := ?_) ?_ ?_
                                              rotate_left
                                              · show Act.put _ (some 53) _ = _
                                                simp only [Act.put, List.setIfInBounds_toArray, List.set_cons_zero, List.set_cons_succ, i64_w, i32_w]
                                                rfl
                                              exact norm_ (by first | (simp only [putAll, Act.put, List.setIfInBounds_toArray, List.set_cons_zero, List.set_cons_succ]; done) | (simp only [putAll, Act.put, List.setIfInBounds_toArray, List.set_cons_zero, List.set_cons_succ]; rfl) | (simp only [putAll, Act.put, List.setIfInBounds_toArray, List.set_cons_zero, List.set_cons_succ, c15b0]; done) | (simp only [putAll, Act.put, List.setIfInBounds_toArray, List.set_cons_zero, List.set_cons_succ, c15b0]; rfl) | (simp only [putAll, Act.put, List.setIfInBounds_toArray, List.set_cons_zero, List.set_cons_succ, c15b0, c18b0]; done) | (simp only [putAll, Act.put, List.setIfInBounds_toArray, List.set_cons_zero, List.set_cons_succ, c15b0, c18b0]; rfl) | (simp only [putAll, Act.put, List.setIfInBounds_toArray, List.set_cons_zero, List.set_cons_succ, c15b0, c18b0, c19b0]; done) | (simp only [putAll, Act.put, List.setIfInBounds_toArray, List.set_cons_zero, List.set_cons_succ, c15b0, c18b0, c19b0]; rfl) | (simp only [putAll, Act.put, List.setIfInBounds_toArray, List.set_cons_zero, List.set_cons_succ, c15b0, c18b0, c19b0, c20b0]; done) | (simp only [putAll, Act.put, List.setIfInBounds_toArray, List.set_cons_zero, List.set_cons_succ, c15b0, c18b0, c19b0, c20b0]; rfl) | (simp only [putAll, Act.put, List.setIfInBounds_toArray, List.set_cons_zero, List.set_cons_succ, c15b0, c18b0, c19b0, c20b0, c21b0]; done) | (simp only [putAll, Act.put, List.setIfInBounds_toArray, List.set_cons_zero, List.set_cons_succ, c15b0, c18b0, c19b0, c20b0, c21b0]; rfl) | (simp only [putAll, Act.put, List.setIfInBounds_toArray, List.set_cons_zero, List.set_cons_succ, c15b0, c18b0, c19b0, c20b0, c21b0, c22b0]; done) | (simp only [putAll, Act.put, List.setIfInBounds_toArray, List.set_cons_zero, List.set_cons_succ, c15b0, c18b0, c19b0, c20b0, c21b0, c22b0]; rfl) | (simp only [putAll, Act.put, List.setIfInBounds_toArray, List.set_cons_zero, List.set_cons_succ, c15b0, c18b0, c19b0, c20b0, c21b0, c22b0, c24b0]; done) | (simp only [putAll, Act.put, List.setIfInBounds_toArray, List.set_cons_zero, List.set_cons_succ, c15b0, c18b0, c19b0, c20b0, c21b0, c22b0, c24b0]; rfl)) (hJ4_5 (v168) _ ⟨(by (with_reducible repeat (first | apply Kd.R_alloc | apply Kd.R_drewN | apply Kd.R_drew)); exact HO166.out), (by (with_reducible repeat (first | apply Kd.R_alloc | apply Kd.R_drewN | apply Kd.R_drew)); exact HO169.out), (by repeat (first | (with_reducible first | exact HB.out | apply below_alloc | apply pw_below_drewN | apply below_drew1) | exact HB.out))⟩)
                                        · skip
                                          rintro _ w29 ⟨h0_, h1_⟩
                                          have n0_ : Aside0 (Kd.R (Kd.int .u8) 5 w29 w.heap.size (fun _ => True) v165 t164) := ⟨h0_⟩
                                          have n1_ : Aside0 (Below w.heap.size w w29) := ⟨h1_⟩
                                          clear HB
                                          clear h0_ h1_
                                          have HO166 := n0_
                                          have HB := n1_
                                          clear n0_ n1_
                                          have hHeld := trivial
                                          refine norm_ (a' := ?_) ?_ ?_
                                          rotate_left
                                          · simp only [putAll, Act.put, List.setIfInBounds_toArray, List.set_cons_zero, List.set_cons_succ]
                                            rfl
                                          (try rw [c15b0]); (try rw [c18b0]); (try rw [c19b0]); (try rw [c20b0]); (try rw [c21b0]); (try rw [c22b0]); (try rw [c24b0])
                                          refine one_ (i := 4) (N := some 52) #[true, true, true, true, true, false, false, false, false, false, false, false, false, false, false, false, false, false, false, false, false, false, false, false, false, false, false, false, false, false, false, false, false, false, false, false, false, false, false, false, false, false, false, false, false, false] rfl rfl (one_of HT_.out (by kernel_rfl)) (by decide) (fun K hK => ?_)
                                          (try rw [c15b0]); (try rw [c18b0]); (try rw [c19b0]); (try rw [c20b0]); (try rw [c21b0]); (try rw [c22b0]); (try rw [c24b0])
                                          refine goes_ Try.func23 (by kernel_rfl) rfl #[.int .u64 a0] (by rfl) rfl rfl (by (try simp only [List.map_toArray, List.map_cons, List.map_nil]); first | done | rfl | (simp only [List.length_drop, List.length_take]; rfl)) ?_
                                          with_reducible refine (dolmenref1_Varint.calls kj3 a0 t167 _ A14.out).mono ?_
                                          rintro e w30 ⟨v168, rfl, ho0, hb⟩
                                          refine ⟨_, rfl, ?_⟩
                                          have n0_ := Aside0.mk (Kd.R_elder' (by (with_reducible repeat (first | apply Kd.R_alloc | apply Kd.R_drewN | apply Kd.R_drew)); exact HO166.out) (Kd.R_base ho0) hb)
                                          have n1_ := Aside0.mk (Kd.R_lower (Kd.R_new' ho0 (Kd.R_lt (by (with_reducible repeat (first | apply Kd.R_alloc | apply Kd.R_drewN | apply Kd.R_drew)); exact HO166.out))) (below_size (by repeat (first | (with_reducible first | exact HB.out | apply below_alloc | apply pw_below_drewN | apply below_drew1) | exact HB.out))))
                                          have n2_ := Aside0.mk (below_step (by repeat (first | (with_reducible first | exact HB.out | apply below_alloc | apply pw_below_drewN | apply below_drew1) | exact HB.out)) hb)
                                          clear HO166
                                          clear HB
                                          have HO166 := n0_
                                          have HO169 := n1_
                                          have HB := n2_
                                          clear n0_ n1_ n2_
                                          (try clear hb)
                                          (try clear hb2)
                                          (try clear hk)
                                          (try clear hi)
                                          (try clear ho0)
                                          refine hK.out _ _ trivial (fun hHeld => ?_)
                                          clear hK K
                                          refine norm_ (a' := ?_) ?_ ?_
                                          rotate_left
                                          · show Act.put _ (some 52) _ = _
                                            simp only [Act.put, List.setIfInBounds_toArray, List.set_cons_zero, List.set_cons_succ, i64_w, i32_w]
                                            rfl
                                          exact norm_ (by first | (simp only [putAll, Act.put, List.setIfInBounds_toArray, List.set_cons_zero, List.set_cons_succ]; done) | (simp only [putAll, Act.put, List.setIfInBounds_toArray, List.set_cons_zero, List.set_cons_succ]; rfl) | (simp only [putAll, Act.put, List.setIfInBounds_toArray, List.set_cons_zero, List.set_cons_succ, c15b0]; done) | (simp only [putAll, Act.put, List.setIfInBounds_toArray, List.set_cons_zero, List.set_cons_succ, c15b0]; rfl) | (simp only [putAll, Act.put, List.setIfInBounds_toArray, List.set_cons_zero, List.set_cons_succ, c15b0, c18b0]; done) | (simp only [putAll, Act.put, List.setIfInBounds_toArray, List.set_cons_zero, List.set_cons_succ, c15b0, c18b0]; rfl) | (simp only [putAll, Act.put, List.setIfInBounds_toArray, List.set_cons_zero, List.set_cons_succ, c15b0, c18b0, c19b0]; done) | (simp only [putAll, Act.put, List.setIfInBounds_toArray, List.set_cons_zero, List.set_cons_succ, c15b0, c18b0, c19b0]; rfl) | (simp only [putAll, Act.put, List.setIfInBounds_toArray, List.set_cons_zero, List.set_cons_succ, c15b0, c18b0, c19b0, c20b0]; done) | (simp only [putAll, Act.put, List.setIfInBounds_toArray, List.set_cons_zero, List.set_cons_succ, c15b0, c18b0, c19b0, c20b0]; rfl) | (simp only [putAll, Act.put, List.setIfInBounds_toArray, List.set_cons_zero, List.set_cons_succ, c15b0, c18b0, c19b0, c20b0, c21b0]; done) | (simp only [putAll, Act.put, List.setIfInBounds_toArray, List.set_cons_zero, List.set_cons_succ, c15b0, c18b0, c19b0, c20b0, c21b0]; rfl) | (simp only [putAll, Act.put, List.setIfInBounds_toArray, List.set_cons_zero, List.set_cons_succ, c15b0, c18b0, c19b0, c20b0, c21b0, c22b0]; done) | (simp only [putAll, Act.put, List.setIfInBounds_toArray, List.set_cons_zero, List.set_cons_succ, c15b0, c18b0, c19b0, c20b0, c21b0, c22b0]; rfl) | (simp only [putAll, Act.put, List.setIfInBounds_toArray, List.set_cons_zero, List.set_cons_succ, c15b0, c18b0, c19b0, c20b0, c21b0, c22b0, c24b0]; done) | (simp only [putAll, Act.put, List.setIfInBounds_toArray, List.set_cons_zero, List.set_cons_succ, c15b0, c18b0, c19b0, c20b0, c21b0, c22b0, c24b0]; rfl)) (hJ2_4 (v168) _ ⟨(by (with_reducible repeat (first | apply Kd.R_alloc | apply Kd.R_drewN | apply Kd.R_drew)); exact Kd.R_mono HO166.out (fun _ hk => hk.2)), (by (with_reducible repeat (first | apply Kd.R_alloc | apply Kd.R_drewN | apply Kd.R_drew)); exact Kd.R_mono HO169.out (fun _ hk => hk.2)), (by repeat (first | (with_reducible first | exact HB.out | apply below_alloc | apply pw_below_drewN | apply below_drew1) | exact HB.out))⟩)
                                      · skip
                                        rintro v168 w30 ⟨h0_, h1_, h2_⟩
                                        have n0_ : Aside0 (Kd.R (Kd.int .u8) 5 w30 w.heap.size (fun k_ => some k_ ≠ (v168 : Value).ownBlock) v165 t164) := ⟨h0_⟩
                                        have n1_ : Aside0 (Kd.R (Kd.int .u8) 5 w30 w.heap.size (fun k_ => some k_ ≠ (v165 : Value).ownBlock) v168 t167) := ⟨h1_⟩
                                        have n2_ : Aside0 (Below w.heap.size w w30) := ⟨h2_⟩
                                        clear HB
                                        clear h0_ h1_ h2_
                                        have HO166 := n0_
                                        have HO169 := n1_
                                        have HB := n2_
                                        clear n0_ n1_ n2_
                                        have hHeld := trivial
                                        refine norm_ (a' := ?_) ?_ ?_
                                        rotate_left
                                        · simp only [putAll, Act.put, List.setIfInBounds_toArray, List.set_cons_zero, List.set_cons_succ]
                                          rfl
                                        (try rw [c15b0]); (try rw [c18b0]); (try rw [c19b0]); (try rw [c20b0]); (try rw [c21b0]); (try rw [c22b0]); (try rw [c24b0])
                                        refine one_ (i := 2) (N := some 50) #[true, true, true, true, true, true, false, false, false, false, false, false, false, false, false, false, false, false, false, false, false, false, false, false, false, false, false, false, false, false, false, false, false, false, false, false, false, false, false, false, false, false, false, false, false, false] rfl rfl (one_of HT_.out (by kernel_rfl)) (by decide) (fun K hK => ?_)
                                        have hcv31 := own_string (P := Try.prog) Try.underlying27 Try.underlying5 Try.underlying9 (Kd.own_of_R HO166.out); have hcv31d := fun n_ => own_string (P := Try.prog) Try.underlying27 Try.underlying5 Try.underlying9 (Kd.own_of_R (Kd.R_drewN HO166.out n_))
                                        (try rw [c15b0]); (try rw [c18b0]); (try rw [c19b0]); (try rw [c20b0]); (try rw [c21b0]); (try rw [c22b0]); (try rw [c24b0])
                                        refine value_ (w1 := ?_) (v := ?_) (by rfl) rfl ?_ ?_
                                        rotate_left 2
                                        · go_simp
                                          constructor
                                          · rfl
                                          · rfl
                                        clear hcv31
                                        refine hK.out _ _ trivial (fun hHeld => ?_)
                                        clear hK K
                                        refine norm_ (a' := ?_) ?_ ?_
                                        rotate_left
                                        · show Act.put _ (some 50) _ = _
                                          simp only [Act.put, List.setIfInBounds_toArray, List.set_cons_zero, List.set_cons_succ, i64_w, i32_w]
                                          rfl
                                        (try rw [c15b0]); (try rw [c18b0]); (try rw [c19b0]); (try rw [c20b0]); (try rw [c21b0]); (try rw [c22b0]); (try rw [c24b0])
                                        refine pure_ (i := 6) (N := some 54) (v := ?_) (a' := ?_) #[true, true, true, true, true, true, true, false, false, false, false, false, false, false, false, false, false, false, false, false, false, false, false, false, false, false, false, false, false, false, false, false, false, false, false, false, false, false, false, false, false, false, false, false, false, false] rfl rfl (any_of HT_.out (by kernel_rfl)) (fun _ _ _ h => h) (Or.inl ⟨by rfl, ?_⟩) ?_ ?_
                                        rotate_left
                                        · intro w'
                                          go_simp
                                          with_reducible rfl
                                        rotate_left
                                        · simp only [Act.put, List.setIfInBounds_toArray, List.set_cons_zero, List.set_cons_succ, i64_w, i32_w]
                                          rfl
                                        (try rw [c15b0]); (try rw [c18b0]); (try rw [c19b0]); (try rw [c20b0]); (try rw [c21b0]); (try rw [c22b0]); (try rw [c24b0])
                                        refine pure_ (i := 7) (N := some 55) (v := ?_) (a' := ?_) #[true, true, true, true, true, true, true, true, false, false, false, false, false, false, false, false, false, false, false, false, false, false, false, false, false, false, false, false, false, false, false, false, false, false, false, false, false, false, false, false, false, false, false, false, false, false] rfl rfl (any_of HT_.out (by kernel_rfl)) (fun _ _ _ h => h) (Or.inl ⟨by rfl, ?_⟩) ?_ ?_
                                        rotate_left
                                        · intro w'
                                          go_simp
                                          with_reducible rfl
                                        rotate_left
                                        · simp only [Act.put, List.setIfInBounds_toArray, List.set_cons_zero, List.set_cons_succ, i64_w, i32_w]
                                          rfl
                                        (try rw [c15b0]); (try rw [c18b0]); (try rw [c19b0]); (try rw [c20b0]); (try rw [c21b0]); (try rw [c22b0]); (try rw [c24b0])
                                        refine pure_ (i := 8) (N := some 56) (v := ?_) (a' := ?_) #[true, true, true, true, true, true, true, true, true, false, false, false, false, false, false, false, false, false, false, false, false, false, false, false, false, false, false, false, false, false, false, false, false, false, false, false, false, false, false, false, false, false, false, false, false, false] rfl rfl (any_of HT_.out (by kernel_rfl)) (fun _ _ _ h => h) (Or.inl ⟨by rfl, ?_⟩) ?_ ?_
                                        rotate_left
                                        · intro w'
                                          go_simp
                                          with_reducible rfl
                                        rotate_left
                                        · simp only [Act.put, List.setIfInBounds_toArray, List.set_cons_zero, List.set_cons_succ, i64_w, i32_w]
                                          rfl
                                        (try rw [c15b0]); (try rw [c18b0]); (try rw [c19b0]); (try rw [c20b0]); (try rw [c21b0]); (try rw [c22b0]); (try rw [c24b0])
                                        refine pure_ (i := 11) (N := some 59) (v := ?_) (a' := ?_) #[true, true, true, true, true, true, true, true, true, false, false, true, false, false, false, false, false, false, false, false, false, false, false, false, false, false, false, false, false, false, false, false, false, false, false, false, false, false, false, false, false, false, false, false, false, false] rfl rfl (any_of HT_.out (by kernel_rfl)) (fun _ _ _ h => h) (Or.inl ⟨by rfl, ?_⟩) ?_ ?_
                                        rotate_left
                                        · intro w'
                                          go_simp
                                          with_reducible rfl
                                        rotate_left
                                        · simp only [Act.put, List.setIfInBounds_toArray, List.set_cons_zero, List.set_cons_succ, i64_w, i32_w]
                                          rfl
                                        exact norm_ (by first | (simp only [putAll, Act.put, List.setIfInBounds_toArray, List.set_cons_zero, List.set_cons_succ]; done) | (simp only [putAll, Act.put, List.setIfInBounds_toArray, List.set_cons_zero, List.set_cons_succ]; rfl) | (simp only [putAll, Act.put, List.setIfInBounds_toArray, List.set_cons_zero, List.set_cons_succ, c15b0]; done) | (simp only [putAll, Act.put, List.setIfInBounds_toArray, List.set_cons_zero, List.set_cons_succ, c15b0]; rfl) | (simp only [putAll, Act.put, List.setIfInBounds_toArray, List.set_cons_zero, List.set_cons_succ, c15b0, c18b0]; done) | (simp only [putAll, Act.put, List.setIfInBounds_toArray, List.set_cons_zero, List.set_cons_succ, c15b0, c18b0]; rfl) | (simp only [putAll, Act.put, List.setIfInBounds_toArray, List.set_cons_zero, List.set_cons_succ, c15b0, c18b0, c19b0]; done) | (simp only [putAll, Act.put, List.setIfInBounds_toArray, List.set_cons_zero, List.set_cons_succ, c15b0, c18b0, c19b0]; rfl) | (simp only [putAll, Act.put, List.setIfInBounds_toArray, List.set_cons_zero, List.set_cons_succ, c15b0, c18b0, c19b0, c20b0]; done) | (simp only [putAll, Act.put, List.setIfInBounds_toArray, List.set_cons_zero, List.set_cons_succ, c15b0, c18b0, c19b0, c20b0]; rfl) | (simp only [putAll, Act.put, List.setIfInBounds_toArray, List.set_cons_zero, List.set_cons_succ, c15b0, c18b0, c19b0, c20b0, c21b0]; done) | (simp only [putAll, Act.put, List.setIfInBounds_toArray, List.set_cons_zero, List.set_cons_succ, c15b0, c18b0, c19b0, c20b0, c21b0]; rfl) | (simp only [putAll, Act.put, List.setIfInBounds_toArray, List.set_cons_zero, List.set_cons_succ, c15b0, c18b0, c19b0, c20b0, c21b0, c22b0]; done) | (simp only [putAll, Act.put, List.setIfInBounds_toArray, List.set_cons_zero, List.set_cons_succ, c15b0, c18b0, c19b0, c20b0, c21b0, c22b0]; rfl) | (simp only [putAll, Act.put, List.setIfInBounds_toArray, List.set_cons_zero, List.set_cons_succ, c15b0, c18b0, c19b0, c20b0, c21b0, c22b0, c24b0]; done) | (simp only [putAll, Act.put, List.setIfInBounds_toArray, List.set_cons_zero, List.set_cons_succ, c15b0, c18b0, c19b0, c20b0, c21b0, c22b0, c24b0]; rfl)) (hJ2_4_5 (v168) _ ⟨(by (with_reducible repeat (first | apply Kd.R_alloc | apply Kd.R_drewN | apply Kd.R_drew)); exact HO166.out), (by (with_reducible repeat (first | apply Kd.R_alloc | apply Kd.R_drewN | apply Kd.R_drew)); exact HO169.out), (by repeat (first | (with_reducible first | exact HB.out | apply below_alloc | apply pw_below_drewN | apply below_drew1) | exact HB.out))⟩)
                                    · skip
                                      rintro v168 w30 ⟨h0_, h1_, h2_⟩
                                      have n0_ : Aside0 (Kd.R (Kd.int .u8) 5 w30 w.heap.size (fun k_ => some k_ ≠ (v168 : Value).ownBlock) v165 t164) := ⟨h0_⟩
                                      have n1_ : Aside0 (Kd.R (Kd.int .u8) 5 w30 w.heap.size (fun k_ => some k_ ≠ (v165 : Value).ownBlock) v168 t167) := ⟨h1_⟩
                                      have n2_ : Aside0 (Below w.heap.size w w30) := ⟨h2_⟩
                                      clear HB
                                      clear h0_ h1_ h2_
                                      have HO166 := n0_
                                      have HO169 := n1_
                                      have HB := n2_
                                      clear n0_ n1_ n2_
                                      have hHeld := trivial
                                      refine norm_ (a' := ?_) ?_ ?_
                                      rotate_left
                                      · simp only [putAll, Act.put, List.setIfInBounds_toArray, List.set_cons_zero, List.set_cons_succ]
                                        rfl
                                      (try rw [c15b0]); (try rw [c18b0]); (try rw [c19b0]); (try rw [c20b0]); (try rw [c21b0]); (try rw [c22b0]); (try rw [c24b0])
                                      refine one_ (i := 5) (N := some 53) #[true, true, true, true, true, true, false, false, false, false, false, false, false, false, false, false, false, false, false, false, false, false, false, false, false, false, false, false, false, false, false, false, false, false, false, false, false, false, false, false, false, false, false, false, false, false] rfl rfl (one_of HT_.out (by kernel_rfl)) (by decide) (fun K hK => ?_)
                                      have hcv31 := own_string (P := Try.prog) Try.underlying27 Try.underlying5 Try.underlying9 (Kd.own_of_R HO169.out); have hcv31d := fun n_ => own_string (P := Try.prog) Try.underlying27 Try.underlying5 Try.underlying9 (Kd.own_of_R (Kd.R_drewN HO169.out n_))
                                      (try rw [c15b0]); (try rw [c18b0]); (try rw [c19b0]); (try rw [c20b0]); (try rw [c21b0]); (try rw [c22b0]); (try rw [c24b0])
                                      refine value_ (w1 := ?_) (v := ?_) (by rfl) rfl ?_ ?_
                                      rotate_left 2
                                      · go_simp
                                        constructor
                                        · rfl
                                        · rfl
                                      clear hcv31
                                      refine hK.out _ _ trivial (fun hHeld => ?_)
                                      clear hK K
                                      refine norm_ (a' := ?_) ?_ ?_
                                      rotate_left
                                      · show Act.put _ (some 53) _ = _
                                        simp only [Act.put, List.setIfInBounds_toArray, List.set_cons_zero, List.set_cons_succ, i64_w, i32_w]
                                        rfl
                                      (try rw [c15b0]); (try rw [c18b0]); (try rw [c19b0]); (try rw [c20b0]); (try rw [c21b0]); (try rw [c22b0]); (try rw [c24b0])
                                      refine pure_ (i := 6) (N := some 54) (v := ?_) (a' := ?_) #[true, true, true, true, true, true, true, false, false, false, false, false, false, false, false, false, false, false, false, false, false, false, false, false, false, false, false, false, false, false, false, false, false, false, false, false, false, false, false, false, false, false, false, false, false, false] rfl rfl (any_of HT_.out (by kernel_rfl)) (fun _ _ _ h => h) (Or.inl ⟨by rfl, ?_⟩) ?_ ?_
                                      rotate_left
                                      · intro w'
                                        go_simp
                                        with_reducible rfl
                                      rotate_left
                                      · simp only [Act.put, List.setIfInBounds_toArray, List.set_cons_zero, List.set_cons_succ, i64_w, i32_w]
                                        rfl
                                      (try rw [c15b0]); (try rw [c18b0]); (try rw [c19b0]); (try rw [c20b0]); (try rw [c21b0]); (try rw [c22b0]); (try rw [c24b0])
                                      refine pure_ (i := 7) (N := some 55) (v := ?_) (a' := ?_) #[true, true, true, true, true, true, true, true, false, false, false, false, false, false, false, false, false, false, false, false, false, false, false, false, false, false, false, false, false, false, false, false, false, false, false, false, false, false, false, false, false, false, false, false, false, false] rfl rfl (any_of HT_.out (by kernel_rfl)) (fun _ _ _ h => h) (Or.inl ⟨by rfl, ?_⟩) ?_ ?_
                                      rotate_left
                                      · intro w'
                                        go_simp
                                        with_reducible rfl
                                      rotate_left
                                      · simp only [Act.put, List.setIfInBounds_toArray, List.set_cons_zero, List.set_cons_succ, i64_w, i32_w]
                                        rfl
                                      (try rw [c15b0]); (try rw [c18b0]); (try rw [c19b0]); (try rw [c20b0]); (try rw [c21b0]); (try rw [c22b0]); (try rw [c24b0])
                                      refine pure_ (i := 8) (N := some 56) (v := ?_) (a' := ?_) #[true, true, true, true, true, true, true, true, true, false, false, false, false, false, false, false, false, false, false, false, false, false, false, false, false, false, false, false, false, false, false, false, false, false, false, false, false, false, false, false, false, false, false, false, false, false] rfl rfl (any_of HT_.out (by kernel_rfl)) (fun _ _ _ h => h) (Or.inl ⟨by rfl, ?_⟩) ?_ ?_
                                      rotate_left
                                      · intro w'
                                        go_simp
                                        with_reducible rfl
                                      rotate_left
                                      · simp only [Act.put, List.setIfInBounds_toArray, List.set_cons_zero, List.set_cons_succ, i64_w, i32_w]
                                        rfl
                                      (try rw [c15b0]); (try rw [c18b0]); (try rw [c19b0]); (try rw [c20b0]); (try rw [c21b0]); (try rw [c22b0]); (try rw [c24b0])
                                      refine pure_ (i := 11) (N := some 59) (v := ?_) (a' := ?_) #[true, true, true, true, true, true, true, true, true, false, false, true, false, false, false, false, false, false, false, false, false, false, false, false, false, false, false, false, false, false, false, false, false, false, false, false, false, false, false, false, false, false, false, false, false, false] rfl rfl (any_of HT_.out (by kernel_rfl)) (fun _ _ _ h => h) (Or.inl ⟨by rfl, ?_⟩) ?_ ?_
                                      rotate_left
                                      · intro w'
                                        go_simp
                                        with_reducible rfl
                                      rotate_left
                                      · simp only [Act.put, List.setIfInBounds_toArray, List.set_cons_zero, List.set_cons_succ, i64_w, i32_w]
                                        rfl
                                      exact norm_ (by first | (simp only [putAll, Act.put, List.setIfInBounds_toArray, List.set_cons_zero, List.set_cons_succ]; done) | (simp only [putAll, Act.put, List.setIfInBounds_toArray, List.set_cons_zero, List.set_cons_succ]; rfl) | (simp only [putAll, Act.put, List.setIfInBounds_toArray, List.set_cons_zero, List.set_cons_succ, c15b0]; done) | (simp only [putAll, Act.put, List.setIfInBounds_toArray, List.set_cons_zero, List.set_cons_succ, c15b0]; rfl) | (simp only [putAll, Act.put, List.setIfInBounds_toArray, List.set_cons_zero, List.set_cons_succ, c15b0, c18b0]; done) | (simp only [putAll, Act.put, List.setIfInBounds_toArray, List.set_cons_zero, List.set_cons_succ, c15b0, c18b0]; rfl) | (simp only [putAll, Act.put, List.setIfInBounds_toArray, List.set_cons_zero, List.set_cons_succ, c15b0, c18b0, c19b0]; done) | (simp only [putAll, Act.put, List.setIfInBounds_toArray, List.set_cons_zero, List.set_cons_succ, c15b0, c18b0, c19b0]; rfl) | (simp only [putAll, Act.put, List.setIfInBounds_toArray, List.set_cons_zero, List.set_cons_succ, c15b0, c18b0, c19b0, c20b0]; done) | (simp only [putAll, Act.put, List.setIfInBounds_toArray, List.set_cons_zero, List.set_cons_succ, c15b0, c18b0, c19b0, c20b0]; rfl) | (simp only [putAll, Act.put, List.setIfInBounds_toArray, List.set_cons_zero, List.set_cons_succ, c15b0, c18b0, c19b0, c20b0, c21b0]; done) | (simp only [putAll, Act.put, List.setIfInBounds_toArray, List.set_cons_zero, List.set_cons_succ, c15b0, c18b0, c19b0, c20b0, c21b0]; rfl) | (simp only [putAll, Act.put, List.setIfInBounds_toArray, List.set_cons_zero, List.set_cons_succ, c15b0, c18b0, c19b0, c20b0, c21b0, c22b0]; done) | (simp only [putAll, Act.put, List.setIfInBounds_toArray, List.set_cons_zero, List.set_cons_succ, c15b0, c18b0, c19b0, c20b0, c21b0, c22b0]; rfl) | (simp only [putAll, Act.put, List.setIfInBounds_toArray, List.set_cons_zero, List.set_cons_succ, c15b0, c18b0, c19b0, c20b0, c21b0, c22b0, c24b0]; done) | (simp only [putAll, Act.put, List.setIfInBounds_toArray, List.set_cons_zero, List.set_cons_succ, c15b0, c18b0, c19b0, c20b0, c21b0, c22b0, c24b0]; rfl)) (hJ2_4_5 (v168) _ ⟨(by (with_reducible repeat (first | apply Kd.R_alloc | apply Kd.R_drewN | apply Kd.R_drew)); exact HO166.out), (by (with_reducible repeat (first | apply Kd.R_alloc | apply Kd.R_drewN | apply Kd.R_drew)); exact HO169.out), (by repeat (first | (with_reducible first | exact HB.out | apply below_alloc | apply pw_below_drewN | apply below_drew1) | exact HB.out))⟩)
                                  · skip
                                    rintro v168 w31 ⟨h0_, h1_, h2_⟩
                                    have n0_ : Aside0 (Kd.R (Kd.int .u8) 5 w31 w.heap.size (fun k_ => some k_ ≠ (v168 : Value).ownBlock) v165 t164) := ⟨h0_⟩
                                    have n1_ : Aside0 (Kd.R (Kd.int .u8) 5 w31 w.heap.size (fun k_ => some k_ ≠ (v165 : Value).ownBlock) v168 t167) := ⟨h1_⟩
                                    have n2_ : Aside0 (Below w.heap.size w w31) := ⟨h2_⟩
                                    clear HB
                                    clear h0_ h1_ h2_
                                    have HO166 := n0_
                                    have HO169 := n1_
                                    have HB := n2_
                                    clear n0_ n1_ n2_
                                    have hHeld := trivial
                                    refine norm_ (a' := ?_) ?_ ?_
                                    rotate_left
                                    · simp only [putAll, Act.put, List.setIfInBounds_toArray, List.set_cons_zero, List.set_cons_succ]
                                      rfl
                                    (try rw [c15b0]); (try rw [c18b0]); (try rw [c19b0]); (try rw [c20b0]); (try rw [c21b0]); (try rw [c22b0]); (try rw [c24b0])
                                    refine one_ (i := 9) (N := some 57) #[true, true, true, true, true, true, true, true, true, true, false, true, false, false, false, false, false, false, false, false, false, false, false, false, false, false, false, false, false, false, false, false, false, false, false, false, false, false, false, false, false, false, false, false, false, false] rfl rfl (one_of HT_.out (by kernel_rfl)) (by decide) (fun K hK => ?_)
                                    (try rw [c15b0]); (try rw [c18b0]); (try rw [c19b0]); (try rw [c20b0]); (try rw [c21b0]); (try rw [c22b0]); (try rw [c24b0])
                                    refine goes_ Try.func24 (by kernel_rfl) rfl #[.string a1] (by rfl) rfl rfl (by (try simp only [List.map_toArray, List.map_cons, List.map_nil]); first | done | rfl | (simp only [List.length_drop, List.length_take]; rfl)) ?_
                                    with_reducible refine (bits_Text.calls kj3 a1 t170 _ A16.out).mono ?_
                                    rintro e w32 ⟨v171, rfl, ho0, hb⟩
                                    refine ⟨_, rfl, ?_⟩
                                    have n0_ := Aside0.mk (Kd.R_elder' (by (with_reducible repeat (first | apply Kd.R_alloc | apply Kd.R_drewN | apply Kd.R_drew)); exact HO166.out) (Kd.R_base ho0) hb)
                                    have n1_ := Aside0.mk (Kd.R_elder' (by (with_reducible repeat (first | apply Kd.R_alloc | apply Kd.R_drewN | apply Kd.R_drew)); exact HO169.out) (Kd.R_base ho0) hb)
                                    have n2_ := Aside0.mk (Kd.R_lower (Kd.R_new' (Kd.R_new' ho0 (Kd.R_lt (by (with_reducible repeat (first | apply Kd.R_alloc | apply Kd.R_drewN | apply Kd.R_drew)); exact HO166.out))) (Kd.R_lt (by (with_reducible repeat (first | apply Kd.R_alloc | apply Kd.R_drewN | apply Kd.R_drew)); exact HO169.out))) (below_size (by repeat (first | (with_reducible first | exact HB.out | apply below_alloc | apply pw_below_drewN | apply below_drew1) | exact HB.out))))
                                    have n3_ := Aside0.mk (below_step (by repeat (first | (with_reducible first | exact HB.out | apply below_alloc | apply pw_below_drewN | apply below_drew1) | exact HB.out)) hb)
                                    clear HO166
                                    clear HO169
                                    clear HB
                                    have HO166 := n0_
                                    have HO169 := n1_
                                    have HO172 := n2_
                                    have HB := n3_
                                    clear n0_ n1_ n2_ n3_
                                    (try clear hb)
                                    (try clear hb2)
                                    (try clear hk)
                                    (try clear hi)
                                    (try clear ho0)
                                    refine hK.out _ _ trivial (fun hHeld => ?_)
                                    clear hK K
                                    refine norm_ (a' := ?_) ?_ ?_
                                    rotate_left
                                    · show Act.put _ (some 57) _ = _
                                      simp only [Act.put, List.setIfInBounds_toArray, List.set_cons_zero, List.set_cons_succ, i64_w, i32_w]
                                      rfl
                                    exact norm_ (by first | (simp only [putAll, Act.put, List.setIfInBounds_toArray, List.set_cons_zero, List.set_cons_succ]; done) | (simp only [putAll, Act.put, List.setIfInBounds_toArray, List.set_cons_zero, List.set_cons_succ]; rfl) | (simp only [putAll, Act.put, List.setIfInBounds_toArray, List.set_cons_zero, List.set_cons_succ, c15b0]; done) | (simp only [putAll, Act.put, List.setIfInBounds_toArray, List.set_cons_zero, List.set_cons_succ, c15b0]; rfl) | (simp only [putAll, Act.put, List.setIfInBounds_toArray, List.set_cons_zero, List.set_cons_succ, c15b0, c18b0]; done) | (simp only [putAll, Act.put, List.setIfInBounds_toArray, List.set_cons_zero, List.set_cons_succ, c15b0, c18b0]; rfl) | (simp only [putAll, Act.put, List.setIfInBounds_toArray, List.set_cons_zero, List.set_cons_succ, c15b0, c18b0, c19b0]; done) | (simp only [putAll, Act.put, List.setIfInBounds_toArray, List.set_cons_zero, List.set_cons_succ, c15b0, c18b0, c19b0]; rfl) | (simp only [putAll, Act.put, List.setIfInBounds_toArray, List.set_cons_zero, List.set_cons_succ, c15b0, c18b0, c19b0, c20b0]; done) | (simp only [putAll, Act.put, List.setIfInBounds_toArray, List.set_cons_zero, List.set_cons_succ, c15b0, c18b0, c19b0, c20b0]; rfl) | (simp only [putAll, Act.put, List.setIfInBounds_toArray, List.set_cons_zero, List.set_cons_succ, c15b0, c18b0, c19b0, c20b0, c21b0]; done) | (simp only [putAll, Act.put, List.setIfInBounds_toArray, List.set_cons_zero, List.set_cons_succ, c15b0, c18b0, c19b0, c20b0, c21b0]; rfl) | (simp only [putAll, Act.put, List.setIfInBounds_toArray, List.set_cons_zero, List.set_cons_succ, c15b0, c18b0, c19b0, c20b0, c21b0, c22b0]; done) | (simp only [putAll, Act.put, List.setIfInBounds_toArray, List.set_cons_zero, List.set_cons_succ, c15b0, c18b0, c19b0, c20b0, c21b0, c22b0]; rfl) | (simp only [putAll, Act.put, List.setIfInBounds_toArray, List.set_cons_zero, List.set_cons_succ, c15b0, c18b0, c19b0, c20b0, c21b0, c22b0, c24b0]; done) | (simp only [putAll, Act.put, List.setIfInBounds_toArray, List.set_cons_zero, List.set_cons_succ, c15b0, c18b0, c19b0, c20b0, c21b0, c22b0, c24b0]; rfl)) (hJ2_4_5_9 (v168, v171) _ ⟨(by (with_reducible repeat (first | apply Kd.R_alloc | apply Kd.R_drewN | apply Kd.R_drew)); exact HO166.out), (by (with_reducible repeat (first | apply Kd.R_alloc | apply Kd.R_drewN | apply Kd.R_drew)); exact HO169.out), (by (with_reducible repeat (first | apply Kd.R_alloc | apply Kd.R_drewN | apply Kd.R_drew)); exact Kd.R_mono HO172.out (fun _ hk => ⟨hk.1.2, hk.2⟩)), (by repeat (first | (with_reducible first | exact HB.out | apply below_alloc | apply pw_below_drewN | apply below_drew1) | exact HB.out))⟩)
                                · skip
                                  rintro ⟨v168, v171⟩ w32 ⟨h0_, h1_, h2_, h3_⟩
                                  have n0_ : Aside0 (Kd.R (Kd.int .u8) 5 w32 w.heap.size (fun k_ => some k_ ≠ (v168 : Value).ownBlock ∧ some k_ ≠ (v171 : Value).ownBlock) v165 t164) := ⟨h0_⟩
                                  have n1_ : Aside0 (Kd.R (Kd.int .u8) 5 w32 w.heap.size (fun k_ => some k_ ≠ (v165 : Value).ownBlock ∧ some k_ ≠ (v171 : Value).ownBlock) v168 t167) := ⟨h1_⟩
                                  have n2_ : Aside0 (Kd.R (Kd.int .u8) 5 w32 w.heap.size (fun k_ => some k_ ≠ (v165 : Value).ownBlock ∧ some k_ ≠ (v168 : Value).ownBlock) v171 t170) := ⟨h2_⟩
                                  have n3_ : Aside0 (Below w.heap.size w w32) := ⟨h3_⟩
                                  clear HB
                                  clear h0_ h1_ h2_ h3_
                                  have HO166 := n0_
                                  have HO169 := n1_
                                  have HO172 := n2_
                                  have HB := n3_
                                  clear n0_ n1_ n2_ n3_
                                  have hHeld := trivial
                                  refine norm_ (a' := ?_) ?_ ?_
                                  rotate_left
                                  · simp only [putAll, Act.put, List.setIfInBounds_toArray, List.set_cons_zero, List.set_cons_succ]
                                    rfl
                                  (try rw [c15b0]); (try rw [c18b0]); (try rw [c19b0]); (try rw [c20b0]); (try rw [c21b0]); (try rw [c22b0]); (try rw [c24b0])
                                  refine two_ (i := 10) (j := 12) (Ni := some 58) (Nj := some 60) #[true, true, true, true, true, true, true, true, true, true, true, true, false, false, false, false, false, false, false, false, false, false, false, false, false, false, false, false, false, false, false, false, false, false, false, false, false, false, false, false, false, false, false, false, false, false] #[true, true, true, true, true, true, true, true, true, true, false, true, true, false, false, false, false, false, false, false, false, false, false, false, false, false, false, false, false, false, false, false, false, false, false, false, false, false, false, false, false, false, false, false, false, false] rfl rfl rfl rfl (two_of HT_.out (by kernel_rfl)) (by decide) (by decide) (fun K hK => ?_) (fun K hK => ?_)
                                  · skip
                                    have hcv33 := own_string (P := Try.prog) Try.underlying27 Try.underlying5 Try.underlying9 (Kd.own_of_R HO172.out); have hcv33d := fun n_ => own_string (P := Try.prog) Try.underlying27 Try.underlying5 Try.underlying9 (Kd.own_of_R (Kd.R_drewN HO172.out n_))
                                    (try rw [c15b0]); (try rw [c18b0]); (try rw [c19b0]); (try rw [c20b0]); (try rw [c21b0]); (try rw [c22b0]); (try rw [c24b0])
                                    refine value_ (w1 := ?_) (v := ?_) (by rfl) rfl ?_ ?_
                                    rotate_left 2
                                    · go_simp
                                      constructor
                                      · rfl
                                      · rfl
                                    clear hcv33
                                    refine hK.out _ _ trivial (fun hHeld => ?_)
                                    clear hK K
                                    refine norm_ (a' := ?_) ?_ ?_
                                    rotate_left
                                    · show Act.put _ (some 58) _ = _
                                      simp only [Act.put, List.setIfInBounds_toArray, List.set_cons_zero, List.set_cons_succ, i64_w, i32_w]
                                      rfl
                                    exact norm_ (by first | (simp only [putAll, Act.put, List.setIfInBounds_toArray, List.set_cons_zero, List.set_cons_succ]; done) | (simp only [putAll, Act.put, List.setIfInBounds_toArray, List.set_cons_zero, List.set_cons_succ]; rfl) | (simp only [putAll, Act.put, List.setIfInBounds_toArray, List.set_cons_zero, List.set_cons_succ, c15b0]; done) | (simp only [putAll, Act.put, List.setIfInBounds_toArray, List.set_cons_zero, List.set_cons_succ, c15b0]; rfl) | (simp only [putAll, Act.put, List.setIfInBounds_toArray, List.set_cons_zero, List.set_cons_succ, c15b0, c18b0]; done) | (simp only [putAll, Act.put, List.setIfInBounds_toArray, List.set_cons_zero, List.set_cons_succ, c15b0, c18b0]; rfl) | (simp only [putAll, Act.put, List.setIfInBounds_toArray, List.set_cons_zero, List.set_cons_succ, c15b0, c18b0, c19b0]; done) | (simp only [putAll, Act.put, List.setIfInBounds_toArray, List.set_cons_zero, List.set_cons_succ, c15b0, c18b0, c19b0]; rfl) | (simp only [putAll, Act.put, List.setIfInBounds_toArray, List.set_cons_zero, List.set_cons_succ, c15b0, c18b0, c19b0, c20b0]; done) | (simp only [putAll, Act.put, List.setIfInBounds_toArray, List.set_cons_zero, List.set_cons_succ, c15b0, c18b0, c19b0, c20b0]; rfl) | (simp only [putAll, Act.put, List.setIfInBounds_toArray, List.set_cons_zero, List.set_cons_succ, c15b0, c18b0, c19b0, c20b0, c21b0]; done) | (simp only [putAll, Act.put, List.setIfInBounds_toArray, List.set_cons_zero, List.set_cons_succ, c15b0, c18b0, c19b0, c20b0, c21b0]; rfl) | (simp only [putAll, Act.put, List.setIfInBounds_toArray, List.set_cons_zero, List.set_cons_succ, c15b0, c18b0, c19b0, c20b0, c21b0, c22b0]; done) | (simp only [putAll, Act.put, List.setIfInBounds_toArray, List.set_cons_zero, List.set_cons_succ, c15b0, c18b0, c19b0, c20b0, c21b0, c22b0]; rfl) | (simp only [putAll, Act.put, List.setIfInBounds_toArray, List.set_cons_zero, List.set_cons_succ, c15b0, c18b0, c19b0, c20b0, c21b0, c22b0, c24b0]; done) | (simp only [putAll, Act.put, List.setIfInBounds_toArray, List.set_cons_zero, List.set_cons_succ, c15b0, c18b0, c19b0, c20b0, c21b0, c22b0, c24b0]; rfl)) (hJ2_4_5_9_10 (v168, v171) _ ⟨(by (with_reducible repeat (first | apply Kd.R_alloc | apply Kd.R_drewN | apply Kd.R_drew)); exact HO166.out), (by (with_reducible repeat (first | apply Kd.R_alloc | apply Kd.R_drewN | apply Kd.R_drew)); exact HO169.out), (by (with_reducible repeat (first | apply Kd.R_alloc | apply Kd.R_drewN | apply Kd.R_drew)); exact HO172.out), (by repeat (first | (with_reducible first | exact HB.out | apply below_alloc | apply pw_below_drewN | apply below_drew1) | exact HB.out))⟩)
                                  · skip
                                    (try rw [c15b0]); (try rw [c18b0]); (try rw [c19b0]); (try rw [c20b0]); (try rw [c21b0]); (try rw [c22b0]); (try rw [c24b0])
                                    refine goes_ Try.func25 (by kernel_rfl) rfl #[.string a1] (by rfl) rfl rfl (by (try simp only [List.map_toArray, List.map_cons, List.map_nil]); first | done | rfl | (simp only [List.length_drop, List.length_take]; rfl)) ?_
                                    with_reducible refine (dolmenref1_Text.calls kj3 a1 t173 _ A17.out).mono ?_
                                    rintro e w33 ⟨v174, rfl, ho0, hb⟩
                                    refine ⟨_, rfl, ?_⟩
                                    have n0_ := Aside0.mk (Kd.R_elder' (by (with_reducible repeat (first | apply Kd.R_alloc | apply Kd.R_drewN | apply Kd.R_drew)); exact HO166.out) (Kd.R_base ho0) hb)
                                    have n1_ := Aside0.mk (Kd.R_elder' (by (with_reducible repeat (first | apply Kd.R_alloc | apply Kd.R_drewN | apply Kd.R_drew)); exact HO169.out) (Kd.R_base ho0) hb)
                                    have n2_ := Aside0.mk (Kd.R_elder' (by (with_reducible repeat (first | apply Kd.R_alloc | apply Kd.R_drewN | apply Kd.R_drew)); exact HO172.out) (Kd.R_base ho0) hb)
                                    have n3_ := Aside0.mk (Kd.R_lower (Kd.R_new' (Kd.R_new' (Kd.R_new' ho0 (Kd.R_lt (by (with_reducible repeat (first | apply Kd.R_alloc | apply Kd.R_drewN | apply Kd.R_drew)); exact HO166.out))) (Kd.R_lt (by (with_reducible repeat (first | apply Kd.R_alloc | apply Kd.R_drewN | apply Kd.R_drew)); exact HO169.out))) (Kd.R_lt (by (with_reducible repeat (first | apply Kd.R_alloc | apply Kd.R_drewN | apply Kd.R_drew)); exact HO172.out))) (below_size (by repeat (first | (with_reducible first | exact HB.out | apply below_alloc | apply pw_below_drewN | apply below_drew1) | exact HB.out))))
                                    have n4_ := Aside0.mk (below_step (by repeat (first | (with_reducible first | exact HB.out | apply below_alloc | apply pw_below_drewN | apply below_drew1) | exact HB.out)) hb)
                                    clear HO166
                                    clear HO169
                                    clear HO172
                                    clear HB
                                    have HO166 := n0_
                                    have HO169 := n1_
                                    have HO172 := n2_
                                    have HO175 := n3_
                                    have HB := n4_
                                    clear n0_ n1_ n2_ n3_ n4_
                                    (try clear hb)
                                    (try clear hb2)
                                    (try clear hk)
                                    (try clear hi)
                                    (try clear ho0)
                                    refine hK.out _ _ trivial (fun hHeld => ?_)
                                    clear hK K
                                    refine norm_ (a' := ?_) ?_ ?_
                                    rotate_left
                                    · show Act.put _ (some 60) _ = _
                                      simp only [Act.put, List.setIfInBounds_toArray, List.set_cons_zero, List.set_cons_succ, i64_w, i32_w]
                                      rfl
                                    exact norm_ (by first | (simp only [putAll, Act.put, List.setIfInBounds_toArray, List.set_cons_zero, List.set_cons_succ]; done) | (simp only [putAll, Act.put, List.setIfInBounds_toArray, List.set_cons_zero, List.set_cons_succ]; rfl) | (simp only [putAll, Act.put, List.setIfInBounds_toArray, List.set_cons_zero, List.set_cons_succ, c15b0]; done) | (simp only [putAll, Act.put, List.setIfInBounds_toArray, List.set_cons_zero, List.set_cons_succ, c15b0]; rfl) | (simp only [putAll, Act.put, List.setIfInBounds_toArray, List.set_cons_zero, List.set_cons_succ, c15b0, c18b0]; done) | (simp only [putAll, Act.put, List.setIfInBounds_toArray, List.set_cons_zero, List.set_cons_succ, c15b0, c18b0]; rfl) | (simp only [putAll, Act.put, List.setIfInBounds_toArray, List.set_cons_zero, List.set_cons_succ, c15b0, c18b0, c19b0]; done) | (simp only [putAll, Act.put, List.setIfInBounds_toArray, List.set_cons_zero, List.set_cons_succ, c15b0, c18b0, c19b0]; rfl) | (simp only [putAll, Act.put, List.setIfInBounds_toArray, List.set_cons_zero, List.set_cons_succ, c15b0, c18b0, c19b0, c20b0]; done) | (simp only [putAll, Act.put, List.setIfInBounds_toArray, List.set_cons_zero, List.set_cons_succ, c15b0, c18b0, c19b0, c20b0]; rfl) | (simp only [putAll, Act.put, List.setIfInBounds_toArray, List.set_cons_zero, List.set_cons_succ, c15b0, c18b0, c19b0, c20b0, c21b0]; done) | (simp only [putAll, Act.put, List.setIfInBounds_toArray, List.set_cons_zero, List.set_cons_succ, c15b0, c18b0, c19b0, c20b0, c21b0]; rfl) | (simp only [putAll, Act.put, List.setIfInBounds_toArray, List.set_cons_zero, List.set_cons_succ, c15b0, c18b0, c19b0, c20b0, c21b0, c22b0]; done) | (simp only [putAll, Act.put, List.setIfInBounds_toArray, List.set_cons_zero, List.set_cons_succ, c15b0, c18b0, c19b0, c20b0, c21b0, c22b0]; rfl) | (simp only [putAll, Act.put, List.setIfInBounds_toArray, List.set_cons_zero, List.set_cons_succ, c15b0, c18b0, c19b0, c20b0, c21b0, c22b0, c24b0]; done) | (simp only [putAll, Act.put, List.setIfInBounds_toArray, List.set_cons_zero, List.set_cons_succ, c15b0, c18b0, c19b0, c20b0, c21b0, c22b0, c24b0]; rfl)) (hJ2_4_5_9_12 (v168, v171, v174) _ ⟨(by (with_reducible repeat (first | apply Kd.R_alloc | apply Kd.R_drewN | apply Kd.R_drew)); exact Kd.R_mono HO166.out (fun _ hk => ⟨hk.1.1, ⟨hk.1.2, hk.2⟩⟩)), (by (with_reducible repeat (first | apply Kd.R_alloc | apply Kd.R_drewN | apply Kd.R_drew)); exact Kd.R_mono HO169.out (fun _ hk => ⟨hk.1.1, ⟨hk.1.2, hk.2⟩⟩)), (by (with_reducible repeat (first | apply Kd.R_alloc | apply Kd.R_drewN | apply Kd.R_drew)); exact Kd.R_mono HO172.out (fun _ hk => ⟨hk.1.1, ⟨hk.1.2, hk.2⟩⟩)), (by (with_reducible repeat (first | apply Kd.R_alloc | apply Kd.R_drewN | apply Kd.R_drew)); exact Kd.R_mono HO175.out (fun _ hk => ⟨hk.1.1.2, ⟨hk.1.2, hk.2⟩⟩)), (by repeat (first | (with_reducible first | exact HB.out | apply below_alloc | apply pw_below_drewN | apply below_drew1) | exact HB.out))⟩)
                              · skip
                                rintro ⟨v168, v171, v174⟩ w33 ⟨h0_, h1_, h2_, h3_, h4_⟩
                                have n0_ : Aside0 (Kd.R (Kd.int .u8) 5 w33 w.heap.size (fun k_ => some k_ ≠ (v168 : Value).ownBlock ∧ some k_ ≠ (v171 : Value).ownBlock ∧ some k_ ≠ (v174 : Value).ownBlock) v165 t164) := ⟨h0_⟩
                                have n1_ : Aside0 (Kd.R (Kd.int .u8) 5 w33 w.heap.size (fun k_ => some k_ ≠ (v165 : Value).ownBlock ∧ some k_ ≠ (v171 : Value).ownBlock ∧ some k_ ≠ (v174 : Value).ownBlock) v168 t167) := ⟨h1_⟩
                                have n2_ : Aside0 (Kd.R (Kd.int .u8) 5 w33 w.heap.size (fun k_ => some k_ ≠ (v165 : Value).ownBlock ∧ some k_ ≠ (v168 : Value).ownBlock ∧ some k_ ≠ (v174 : Value).ownBlock) v171 t170) := ⟨h2_⟩
                                have n3_ : Aside0 (Kd.R (Kd.int .u8) 5 w33 w.heap.size (fun k_ => some k_ ≠ (v165 : Value).ownBlock ∧ some k_ ≠ (v168 : Value).ownBlock ∧ some k_ ≠ (v171 : Value).ownBlock) v174 t173) := ⟨h3_⟩
                                have n4_ : Aside0 (Below w.heap.size w w33) := ⟨h4_⟩
                                clear HB
                                clear h0_ h1_ h2_ h3_ h4_
                                have HO166 := n0_
                                have HO169 := n1_
                                have HO172 := n2_
                                have HO175 := n3_
                                have HB := n4_
                                clear n0_ n1_ n2_ n3_ n4_
                                have hHeld := trivial
                                refine norm_ (a' := ?_) ?_ ?_
                                rotate_left
                                · simp only [putAll, Act.put, List.setIfInBounds_toArray, List.set_cons_zero, List.set_cons_succ]
                                  rfl
                                (try rw [c15b0]); (try rw [c18b0]); (try rw [c19b0]); (try rw [c20b0]); (try rw [c21b0]); (try rw [c22b0]); (try rw [c24b0])
                                refine two_ (i := 10) (j := 13) (Ni := some 58) (Nj := some 61) #[true, true, true, true, true, true, true, true, true, true, true, true, true, false, false, false, false, false, false, false, false, false, false, false, false, false, false, false, false, false, false, false, false, false, false, false, false, false, false, false, false, false, false, false, false, false] #[true, true, true, true, true, true, true, true, true, true, false, true, true, true, false, false, false, false, false, false, false, false, false, false, false, false, false, false, false, false, false, false, false, false, false, false, false, false, false, false, false, false, false, false, false, false] rfl rfl rfl rfl (two_of HT_.out (by kernel_rfl)) (by decide) (by decide) (fun K hK => ?_) (fun K hK => ?_)
                                · skip
                                  have hcv34 := own_string (P := Try.prog) Try.underlying27 Try.underlying5 Try.underlying9 (Kd.own_of_R HO172.out); have hcv34d := fun n_ => own_string (P := Try.prog) Try.underlying27 Try.underlying5 Try.underlying9 (Kd.own_of_R (Kd.R_drewN HO172.out n_))
                                  (try rw [c15b0]); (try rw [c18b0]); (try rw [c19b0]); (try rw [c20b0]); (try rw [c21b0]); (try rw [c22b0]); (try rw [c24b0])
                                  refine value_ (w1 := ?_) (v := ?_) (by rfl) rfl ?_ ?_
                                  rotate_left 2
                                  · go_simp
                                    constructor
                                    · rfl
                                    · rfl
                                  clear hcv34
                                  refine hK.out _ _ trivial (fun hHeld => ?_)
                                  clear hK K
                                  refine norm_ (a' := ?_) ?_ ?_
                                  rotate_left
                                  · show Act.put _ (some 58) _ = _
                                    simp only [Act.put, List.setIfInBounds_toArray, List.set_cons_zero, List.set_cons_succ, i64_w, i32_w]
                                    rfl
                                  exact norm_ (by first | (simp only [putAll, Act.put, List.setIfInBounds_toArray, List.set_cons_zero, List.set_cons_succ]; done) | (simp only [putAll, Act.put, List.setIfInBounds_toArray, List.set_cons_zero, List.set_cons_succ]; rfl) | (simp only [putAll, Act.put, List.setIfInBounds_toArray, List.set_cons_zero, List.set_cons_succ, c15b0]; done) | (simp only [putAll, Act.put, List.setIfInBounds_toArray, List.set_cons_zero, List.set_cons_succ, c15b0]; rfl) | (simp only [putAll, Act.put, List.setIfInBounds_toArray, List.set_cons_zero, List.set_cons_succ, c15b0, c18b0]; done) | (simp only [putAll, Act.put, List.setIfInBounds_toArray, List.set_cons_zero, List.set_cons_succ, c15b0, c18b0]; rfl) | (simp only [putAll, Act.put, List.setIfInBounds_toArray, List.set_cons_zero, List.set_cons_succ, c15b0, c18b0, c19b0]; done) | (simp only [putAll, Act.put, List.setIfInBounds_toArray, List.set_cons_zero, List.set_cons_succ, c15b0, c18b0, c19b0]; rfl) | (simp only [putAll, Act.put, List.setIfInBounds_toArray, List.set_cons_zero, List.set_cons_succ, c15b0, c18b0, c19b0, c20b0]; done) | (simp only [putAll, Act.put, List.setIfInBounds_toArray, List.set_cons_zero, List.set_cons_succ, c15b0, c18b0, c19b0, c20b0]; rfl) | (simp only [putAll, Act.put, List.setIfInBounds_toArray, List.set_cons_zero, List.set_cons_succ, c15b0, c18b0, c19b0, c20b0, c21b0]; done) | (simp only [putAll, Act.put, List.setIfInBounds_toArray, List.set_cons_zero, List.set_cons_succ, c15b0, c18b0, c19b0, c20b0, c21b0]; rfl) | (simp only [putAll, Act.put, List.setIfInBounds_toArray, List.set_cons_zero, List.set_cons_succ, c15b0, c18b0, c19b0, c20b0, c21b0, c22b0]; done) | (simp only [putAll, Act.put, List.setIfInBounds_toArray, List.set_cons_zero, List.set_cons_succ, c15b0, c18b0, c19b0, c20b0, c21b0, c22b0]; rfl) | (simp only [putAll, Act.put, List.setIfInBounds_toArray, List.set_cons_zero, List.set_cons_succ, c15b0, c18b0, c19b0, c20b0, c21b0, c22b0, c24b0]; done) | (simp only [putAll, Act.put, List.setIfInBounds_toArray, List.set_cons_zero, List.set_cons_succ, c15b0, c18b0, c19b0, c20b0, c21b0, c22b0, c24b0]; rfl)) (hJ2_4_5_9_10_12 (v168, v171, v174) _ ⟨(by (with_reducible repeat (first | apply Kd.R_alloc | apply Kd.R_drewN | apply Kd.R_drew)); exact HO166.out), (by (with_reducible repeat (first | apply Kd.R_alloc | apply Kd.R_drewN | apply Kd.R_drew)); exact HO169.out), (by (with_reducible repeat (first | apply Kd.R_alloc | apply Kd.R_drewN | apply Kd.R_drew)); exact HO172.out), (by (with_reducible repeat (first | apply Kd.R_alloc | apply Kd.R_drewN | apply Kd.R_drew)); exact HO175.out), (by repeat (first | (with_reducible first | exact HB.out | apply below_alloc | apply pw_below_drewN | apply below_drew1) | exact HB.out))⟩)
                                · skip
                                  have hcv34 := own_string (P := Try.prog) Try.underlying27 Try.underlying5 Try.underlying9 (Kd.own_of_R HO175.out); have hcv34d := fun n_ => own_string (P := Try.prog) Try.underlying27 Try.underlying5 Try.underlying9 (Kd.own_of_R (Kd.R_drewN HO175.out n_))
                                  (try rw [c15b0]); (try rw [c18b0]); (try rw [c19b0]); (try rw [c20b0]); (try rw [c21b0]); (try rw [c22b0]); (try rw [c24b0])
                                  refine value_ (w1 := ?_) (v := ?_) (by rfl) rfl ?_ ?_
                                  rotate_left 2
                                  · go_simp
                                    constructor
                                    · rfl
                                    · rfl
                                  clear hcv34
                                  refine hK.out _ _ trivial (fun hHeld => ?_)
                                  clear hK K
                                  refine norm_ (a' := ?_) ?_ ?_
                                  rotate_left
                                  · show Act.put _ (some 61) _ = _
                                    simp only [Act.put, List.setIfInBounds_toArray, List.set_cons_zero, List.set_cons_succ, i64_w, i32_w]
                                    rfl
                                  exact norm_ (by first | (simp only [putAll, Act.put, List.setIfInBounds_toArray, List.set_cons_zero, List.set_cons_succ]; done) | (simp only [putAll, Act.put, List.setIfInBounds_toArray, List.set_cons_zero, List.set_cons_succ]; rfl) | (simp only [putAll, Act.put, List.setIfInBounds_toArray, List.set_cons_zero, List.set_cons_succ, c15b0]; done) | (simp only [putAll, Act.put, List.setIfInBounds_toArray, List.set_cons_zero, List.set_cons_succ, c15b0]; rfl) | (simp only [putAll, Act.put, List.setIfInBounds_toArray, List.set_cons_zero, List.set_cons_succ, c15b0, c18b0]; done) | (simp only [putAll, Act.put, List.setIfInBounds_toArray, List.set_cons_zero, List.set_cons_succ, c15b0, c18b0]; rfl) | (simp only [putAll, Act.put, List.setIfInBounds_toArray, List.set_cons_zero, List.set_cons_succ, c15b0, c18b0, c19b0]; done) | (simp only [putAll, Act.put, List.setIfInBounds_toArray, List.set_cons_zero, List.set_cons_succ, c15b0, c18b0, c19b0]; rfl) | (simp only [putAll, Act.put, List.setIfInBounds_toArray, List.set_cons_zero, List.set_cons_succ, c15b0, c18b0, c19b0, c20b0]; done) | (simp only [putAll, Act.put, List.setIfInBounds_toArray, List.set_cons_zero, List.set_cons_succ, c15b0, c18b0, c19b0, c20b0]; rfl) | (simp only [putAll, Act.put, List.setIfInBounds_toArray, List.set_cons_zero, List.set_cons_succ, c15b0, c18b0, c19b0, c20b0, c21b0]; done) | (simp only [putAll, Act.put, List.setIfInBounds_toArray, List.set_cons_zero, List.set_cons_succ, c15b0, c18b0, c19b0, c20b0, c21b0]; rfl) | (simp only [putAll, Act.put, List.setIfInBounds_toArray, List.set_cons_zero, List.set_cons_succ, c15b0, c18b0, c19b0, c20b0, c21b0, c22b0]; done) | (simp only [putAll, Act.put, List.setIfInBounds_toArray, List.set_cons_zero, List.set_cons_succ, c15b0, c18b0, c19b0, c20b0, c21b0, c22b0]; rfl) | (simp only [putAll, Act.put, List.setIfInBounds_toArray, List.set_cons_zero, List.set_cons_succ, c15b0, c18b0, c19b0, c20b0, c21b0, c22b0, c24b0]; done) | (simp only [putAll, Act.put, List.setIfInBounds_toArray, List.set_cons_zero, List.set_cons_succ, c15b0, c18b0, c19b0, c20b0, c21b0, c22b0, c24b0]; rfl)) (hJ2_4_5_9_12_13 (v168, v171, v174) _ ⟨(by (with_reducible repeat (first | apply Kd.R_alloc | apply Kd.R_drewN | apply Kd.R_drew)); exact HO166.out), (by (with_reducible repeat (first | apply Kd.R_alloc | apply Kd.R_drewN | apply Kd.R_drew)); exact HO169.out), (by (with_reducible repeat (first | apply Kd.R_alloc | apply Kd.R_drewN | apply Kd.R_drew)); exact HO172.out), (by (with_reducible repeat (first | apply Kd.R_alloc | apply Kd.R_drewN | apply Kd.R_drew)); exact HO175.out), (by repeat (first | (with_reducible first | exact HB.out | apply below_alloc | apply pw_below_drewN | apply below_drew1) | exact HB.out))⟩)
                            · skip
                              rintro ⟨v168, v171⟩ w33 ⟨h0_, h1_, h2_, h3_⟩
                              have n0_ : Aside0 (Kd.R (Kd.int .u8) 5 w33 w.heap.size (fun k_ => some k_ ≠ (v168 : Value).ownBlock ∧ some k_ ≠ (v171 : Value).ownBlock) v165 t164) := ⟨h0_⟩
                              have n1_ : Aside0 (Kd.R (Kd.int .u8) 5 w33 w.heap.size (fun k_ => some k_ ≠ (v165 : Value).ownBlock ∧ some k_ ≠ (v171 : Value).ownBlock) v168 t167) := ⟨h1_⟩
                              have n2_ : Aside0 (Kd.R (Kd.int .u8) 5 w33 w.heap.size (fun k_ => some k_ ≠ (v165 : Value).ownBlock ∧ some k_ ≠ (v168 : Value).ownBlock) v171 t170) := ⟨h2_⟩
                              have n3_ : Aside0 (Below w.heap.size w w33) := ⟨h3_⟩
                              clear HB
                              clear h0_ h1_ h2_ h3_
                              have HO166 := n0_
                              have HO169 := n1_
                              have HO172 := n2_
                              have HB := n3_
                              clear n0_ n1_ n2_ n3_
                              have hHeld := trivial
                              refine norm_ (a' := ?_) ?_ ?_
                              rotate_left
                              · simp only [putAll, Act.put, List.setIfInBounds_toArray, List.set_cons_zero, List.set_cons_succ]
                                rfl
                              (try rw [c15b0]); (try rw [c18b0]); (try rw [c19b0]); (try rw [c20b0]); (try rw [c21b0]); (try rw [c22b0]); (try rw [c24b0])
                              refine one_ (i := 12) (N := some 60) #[true, true, true, true, true, true, true, true, true, true, true, true, true, false, false, false, false, false, false, false, false, false, false, false, false, false, false, false, false, false, false, false, false, false, false, false, false, false, false, false, false, false, false, false, false, false] rfl rfl (one_of HT_.out (by kernel_rfl)) (by decide) (fun K hK => ?_)
                              (try rw [c15b0]); (try rw [c18b0]); (try rw [c19b0]); (try rw [c20b0]); (try rw [c21b0]); (try rw [c22b0]); (try rw [c24b0])
                              refine goes_ Try.func25 (by kernel_rfl) rfl #[.string a1] (by rfl) rfl rfl (by (try simp only [List.map_toArray, List.map_cons, List.map_nil]); first | done | rfl | (simp only [List.length_drop, List.length_take]; rfl)) ?_
                              with_reducible refine (dolmenref1_Text.calls kj3 a1 t173 _ A17.out).mono ?_
                              rintro e w34 ⟨v174, rfl, ho0, hb⟩
                              refine ⟨_, rfl, ?_⟩
                              have n0_ := Aside0.mk (Kd.R_elder' (by (with_reducible repeat (first | apply Kd.R_alloc | apply Kd.R_drewN | apply Kd.R_drew)); exact HO166.out) (Kd.R_base ho0) hb)
                              have n1_ := Aside0.mk (Kd.R_elder' (by (with_reducible repeat (first | apply Kd.R_alloc | apply Kd.R_drewN | apply Kd.R_drew)); exact HO169.out) (Kd.R_base ho0) hb)
                              have n2_ := Aside0.mk (Kd.R_elder' (by (with_reducible repeat (first | apply Kd.R_alloc | apply Kd.R_drewN | apply Kd.R_drew)); exact HO172.out) (Kd.R_base ho0) hb)
                              have n3_ := Aside0.mk (Kd.R_lower (Kd.R_new' (Kd.R_new' (Kd.R_new' ho0 (Kd.R_lt (by (with_reducible repeat (first | apply Kd.R_alloc | apply Kd.R_drewN | apply Kd.R_drew)); exact HO166.out))) (Kd.R_lt (by (with_reducible repeat (first | apply Kd.R_alloc | apply Kd.R_drewN | apply Kd.R_drew)); exact HO169.out))) (Kd.R_lt (by (with_reducible repeat (first | apply Kd.R_alloc | apply Kd.R_drewN | apply Kd.R_drew)); exact HO172.out))) (below_size (by repeat (first | (with_reducible first | exact HB.out | apply below_alloc | apply pw_below_drewN | apply below_drew1) | exact HB.out))))
                              have n4_ := Aside0.mk (below_step (by repeat (first | (with_reducible first | exact HB.out | apply below_alloc | apply pw_below_drewN | apply below_drew1) | exact HB.out)) hb)
                              clear HO166
                              clear HO169
                              clear HO172
                              clear HB
                              have HO166 := n0_
                              have HO169 := n1_
                              have HO172 := n2_
                              have HO175 := n3_
                              have HB := n4_
                              clear n0_ n1_ n2_ n3_ n4_
                              (try clear hb)
                              (try clear hb2)
                              (try clear hk)
                              (try clear hi)
                              (try clear ho0)
                              refine hK.out _ _ trivial (fun hHeld => ?_)
                              clear hK K
                              refine norm_ (a' := ?_) ?_ ?_
                              rotate_left
                              · show Act.put _ (some 60) _ = _
                                simp only [Act.put, List.setIfInBounds_toArray, List.set_cons_zero, List.set_cons_succ, i64_w, i32_w]
                                rfl
                              exact norm_ (by first | (simp only [putAll, Act.put, List.setIfInBounds_toArray, List.set_cons_zero, List.set_cons_succ]; done) | (simp only [putAll, Act.put, List.setIfInBounds_toArray, List.set_cons_zero, List.set_cons_succ]; rfl) | (simp only [putAll, Act.put, List.setIfInBounds_toArray, List.set_cons_zero, List.set_cons_succ, c15b0]; done) | (simp only [putAll, Act.put, List.setIfInBounds_toArray, List.set_cons_zero, List.set_cons_succ, c15b0]; rfl) | (simp only [putAll, Act.put, List.setIfInBounds_toArray, List.set_cons_zero, List.set_cons_succ, c15b0, c18b0]; done) | (simp only [putAll, Act.put, List.setIfInBounds_toArray, List.set_cons_zero, List.set_cons_succ, c15b0, c18b0]; rfl) | (simp only [putAll, Act.put, List.setIfInBounds_toArray, List.set_cons_zero, List.set_cons_succ, c15b0, c18b0, c19b0]; done) | (simp only [putAll, Act.put, List.setIfInBounds_toArray, List.set_cons_zero, List.set_cons_succ, c15b0, c18b0, c19b0]; rfl) | (simp only [putAll, Act.put, List.setIfInBounds_toArray, List.set_cons_zero, List.set_cons_succ, c15b0, c18b0, c19b0, c20b0]; done) | (simp only [putAll, Act.put, List.setIfInBounds_toArray, List.set_cons_zero, List.set_cons_succ, c15b0, c18b0, c19b0, c20b0]; rfl) | (simp only [putAll, Act.put, List.setIfInBounds_toArray, List.set_cons_zero, List.set_cons_succ, c15b0, c18b0, c19b0, c20b0, c21b0]; done) | (simp only [putAll, Act.put, List.setIfInBounds_toArray, List.set_cons_zero, List.set_cons_succ, c15b0, c18b0, c19b0, c20b0, c21b0]; rfl) | (simp only [putAll, Act.put, List.setIfInBounds_toArray, List.set_cons_zero, List.set_cons_succ, c15b0, c18b0, c19b0, c20b0, c21b0, c22b0]; done) | (simp only [putAll, Act.put, List.setIfInBounds_toArray, List.set_cons_zero, List.set_cons_succ, c15b0, c18b0, c19b0, c20b0, c21b0, c22b0]; rfl) | (simp only [putAll, Act.put, List.setIfInBounds_toArray, List.set_cons_zero, List.set_cons_succ, c15b0, c18b0, c19b0, c20b0, c21b0, c22b0, c24b0]; done) | (simp only [putAll, Act.put, List.setIfInBounds_toArray, List.set_cons_zero, List.set_cons_succ, c15b0, c18b0, c19b0, c20b0, c21b0, c22b0, c24b0]; rfl)) (hJ2_4_5_9_10_12 (v168, v171, v174) _ ⟨(by (with_reducible repeat (first | apply Kd.R_alloc | apply Kd.R_drewN | apply Kd.R_drew)); exact Kd.R_mono HO166.out (fun _ hk => ⟨hk.1.1, ⟨hk.1.2, hk.2⟩⟩)), (by (with_reducible repeat (first | apply Kd.R_alloc | apply Kd.R_drewN | apply Kd.R_drew)); exact Kd.R_mono HO169.out (fun _ hk => ⟨hk.1.1, ⟨hk.1.2, hk.2⟩⟩)), (by (with_reducible repeat (first | apply Kd.R_alloc | apply Kd.R_drewN | apply Kd.R_drew)); exact Kd.R_mono HO172.out (fun _ hk => ⟨hk.1.1, ⟨hk.1.2, hk.2⟩⟩)), (by (with_reducible repeat (first | apply Kd.R_alloc | apply Kd.R_drewN | apply Kd.R_drew)); exact Kd.R_mono HO175.out (fun _ hk => ⟨hk.1.1.2, ⟨hk.1.2, hk.2⟩⟩)), (by repeat (first | (with_reducible first | exact HB.out | apply below_alloc | apply pw_below_drewN | apply below_drew1) | exact HB.out))⟩)
                          · skip
                            rintro ⟨v168, v171, v174⟩ w34 ⟨h0_, h1_, h2_, h3_, h4_⟩
                            have n0_ : Aside0 (Kd.R (Kd.int .u8) 5 w34 w.heap.size (fun k_ => some k_ ≠ (v168 : Value).ownBlock ∧ some k_ ≠ (v171 : Value).ownBlock ∧ some k_ ≠ (v174 : Value).ownBlock) v165 t164) := ⟨h0_⟩
                            have n1_ : Aside0 (Kd.R (Kd.int .u8) 5 w34 w.heap.size (fun k_ => some k_ ≠ (v165 : Value).ownBlock ∧ some k_ ≠ (v171 : Value).ownBlock ∧ some k_ ≠ (v174 : Value).ownBlock) v168 t167) := ⟨h1_⟩
                            have n2_ : Aside0 (Kd.R (Kd.int .u8) 5 w34 w.heap.size (fun k_ => some k_ ≠ (v165 : Value).ownBlock ∧ some k_ ≠ (v168 : Value).ownBlock ∧ some k_ ≠ (v174 : Value).ownBlock) v171 t170) := ⟨h2_⟩
                            have n3_ : Aside0 (Kd.R (Kd.int .u8) 5 w34 w.heap.size (fun k_ => some k_ ≠ (v165 : Value).ownBlock ∧ some k_ ≠ (v168 : Value).ownBlock ∧ some k_ ≠ (v171 : Value).ownBlock) v174 t173) := ⟨h3_⟩
                            have n4_ : Aside0 (Below w.heap.size w w34) := ⟨h4_⟩
                            clear HB
                            clear h0_ h1_ h2_ h3_ h4_
                            have HO166 := n0_
                            have HO169 := n1_
                            have HO172 := n2_
                            have HO175 := n3_
                            have HB := n4_
                            clear n0_ n1_ n2_ n3_ n4_
                            have hHeld := trivial
                            refine norm_ (a' := ?_) ?_ ?_
                            rotate_left
                            · simp only [putAll, Act.put, List.setIfInBounds_toArray, List.set_cons_zero, List.set_cons_succ]
                              rfl
                            (try rw [c15b0]); (try rw [c18b0]); (try rw [c19b0]); (try rw [c20b0]); (try rw [c21b0]); (try rw [c22b0]); (try rw [c24b0])
                            refine one_ (i := 10) (N := some 58) #[true, true, true, true, true, true, true, true, true, true, true, true, true, true, false, false, false, false, false, false, false, false, false, false, false, false, false, false, false, false, false, false, false, false, false, false, false, false, false, false, false, false, false, false, false, false] rfl rfl (one_of HT_.out (by kernel_rfl)) (by decide) (fun K hK => ?_)
                            have hcv35 := own_string (P := Try.prog) Try.underlying27 Try.underlying5 Try.underlying9 (Kd.own_of_R HO172.out); have hcv35d := fun n_ => own_string (P := Try.prog) Try.underlying27 Try.underlying5 Try.underlying9 (Kd.own_of_R (Kd.R_drewN HO172.out n_))
                            (try rw [c15b0]); (try rw [c18b0]); (try rw [c19b0]); (try rw [c20b0]); (try rw [c21b0]); (try rw [c22b0]); (try rw [c24b0])
                            refine value_ (w1 := ?_) (v := ?_) (by rfl) rfl ?_ ?_
                            rotate_left 2
                            · go_simp
                              constructor
                              · rfl
                              · rfl
                            clear hcv35
                            refine hK.out _ _ trivial (fun hHeld => ?_)
                            clear hK K
                            refine norm_ (a' := ?_) ?_ ?_
                            rotate_left
                            · show Act.put _ (some 58) _ = _
                              simp only [Act.put, List.setIfInBounds_toArray, List.set_cons_zero, List.set_cons_succ, i64_w, i32_w]
                              rfl
                            exact norm_ (by first | (simp only [putAll, Act.put, List.setIfInBounds_toArray, List.set_cons_zero, List.set_cons_succ]; done) | (simp only [putAll, Act.put, List.setIfInBounds_toArray, List.set_cons_zero, List.set_cons_succ]; rfl) | (simp only [putAll, Act.put, List.setIfInBounds_toArray, List.set_cons_zero, List.set_cons_succ, c15b0]; done) | (simp only [putAll, Act.put, List.setIfInBounds_toArray, List.set_cons_zero, List.set_cons_succ, c15b0]; rfl) | (simp only [putAll, Act.put, List.setIfInBounds_toArray, List.set_cons_zero, List.set_cons_succ, c15b0, c18b0]; done) | (simp only [putAll, Act.put, List.setIfInBounds_toArray, List.set_cons_zero, List.set_cons_succ, c15b0, c18b0]; rfl) | (simp only [putAll, Act.put, List.setIfInBounds_toArray, List.set_cons_zero, List.set_cons_succ, c15b0, c18b0, c19b0]; done) | (simp only [putAll, Act.put, List.setIfInBounds_toArray, List.set_cons_zero, List.set_cons_succ, c15b0, c18b0, c19b0]; rfl) | (simp only [putAll, Act.put, List.setIfInBounds_toArray, List.set_cons_zero, List.set_cons_succ, c15b0, c18b0, c19b0, c20b0]; done) | (simp only [putAll, Act.put, List.setIfInBounds_toArray, List.set_cons_zero, List.set_cons_succ, c15b0, c18b0, c19b0, c20b0]; rfl) | (simp only [putAll, Act.put, List.setIfInBounds_toArray, List.set_cons_zero, List.set_cons_succ, c15b0, c18b0, c19b0, c20b0, c21b0]; done) | (simp only [putAll, Act.put, List.setIfInBounds_toArray, List.set_cons_zero, List.set_cons_succ, c15b0, c18b0, c19b0, c20b0, c21b0]; rfl) | (simp only [putAll, Act.put, List.setIfInBounds_toArray, List.set_cons_zero, List.set_cons_succ, c15b0, c18b0, c19b0, c20b0, c21b0, c22b0]; done) | (simp only [putAll, Act.put, List.setIfInBounds_toArray, List.set_cons_zero, List.set_cons_succ, c15b0, c18b0, c19b0, c20b0, c21b0, c22b0]; rfl) | (simp only [putAll, Act.put, List.setIfInBounds_toArray, List.set_cons_zero, List.set_cons_succ, c15b0, c18b0, c19b0, c20b0, c21b0, c22b0, c24b0]; done) | (simp only [putAll, Act.put, List.setIfInBounds_toArray, List.set_cons_zero, List.set_cons_succ, c15b0, c18b0, c19b0, c20b0, c21b0, c22b0, c24b0]; rfl)) (hJ2_4_5_9_10_12_13 (v168, v171, v174) _ ⟨(by (with_reducible repeat (first | apply Kd.R_alloc | apply Kd.R_drewN | apply Kd.R_drew)); exact HO166.out), (by (with_reducible repeat (first | apply Kd.R_alloc | apply Kd.R_drewN | apply Kd.R_drew)); exact HO169.out), (by (with_reducible repeat (first | apply Kd.R_alloc | apply Kd.R_drewN | apply Kd.R_drew)); exact HO172.out), (by (with_reducible repeat (first | apply Kd.R_alloc | apply Kd.R_drewN | apply Kd.R_drew)); exact HO175.out), (by repeat (first | (with_reducible first | exact HB.out | apply below_alloc | apply pw_below_drewN | apply below_drew1) | exact HB.out))⟩)
                        · skip
                          rintro ⟨v168, v171, v174⟩ w34 ⟨h0_, h1_, h2_, h3_, h4_⟩
                          have n0_ : Aside0 (Kd.R (Kd.int .u8) 5 w34 w.heap.size (fun k_ => some k_ ≠ (v168 : Value).ownBlock ∧ some k_ ≠ (v171 : Value).ownBlock ∧ some k_ ≠ (v174 : Value).ownBlock) v165 t164) := ⟨h0_⟩
                          have n1_ : Aside0 (Kd.R (Kd.int .u8) 5 w34 w.heap.size (fun k_ => some k_ ≠ (v165 : Value).ownBlock ∧ some k_ ≠ (v171 : Value).ownBlock ∧ some k_ ≠ (v174 : Value).ownBlock) v168 t167) := ⟨h1_⟩
                          have n2_ : Aside0 (Kd.R (Kd.int .u8) 5 w34 w.heap.size (fun k_ => some k_ ≠ (v165 : Value).ownBlock ∧ some k_ ≠ (v168 : Value).ownBlock ∧ some k_ ≠ (v174 : Value).ownBlock) v171 t170) := ⟨h2_⟩
                          have n3_ : Aside0 (Kd.R (Kd.int .u8) 5 w34 w.heap.size (fun k_ => some k_ ≠ (v165 : Value).ownBlock ∧ some k_ ≠ (v168 : Value).ownBlock ∧ some k_ ≠ (v171 : Value).ownBlock) v174 t173) := ⟨h3_⟩
                          have n4_ : Aside0 (Below w.heap.size w w34) := ⟨h4_⟩
                          clear HB
                          clear h0_ h1_ h2_ h3_ h4_
                          have HO166 := n0_
                          have HO169 := n1_
                          have HO172 := n2_
                          have HO175 := n3_
                          have HB := n4_
                          clear n0_ n1_ n2_ n3_ n4_
                          have hHeld := trivial
                          refine norm_ (a' := ?_) ?_ ?_
                          rotate_left
                          · simp only [putAll, Act.put, List.setIfInBounds_toArray, List.set_cons_zero, List.set_cons_succ]
                            rfl
                          (try rw [c15b0]); (try rw [c18b0]); (try rw [c19b0]); (try rw [c20b0]); (try rw [c21b0]); (try rw [c22b0]); (try rw [c24b0])
                          refine one_ (i := 13) (N := some 61) #[true, true, true, true, true, true, true, true, true, true, true, true, true, true, false, false, false, false, false, false, false, false, false, false, false, false, false, false, false, false, false, false, false, false, false, false, false, false, false, false, false, false, false, false, false, false] rfl rfl (one_of HT_.out (by kernel_rfl)) (by decide) (fun K hK => ?_)
                          have hcv35 := own_string (P := Try.prog) Try.underlying27 Try.underlying5 Try.underlying9 (Kd.own_of_R HO175.out); have hcv35d := fun n_ => own_string (P := Try.prog) Try.underlying27 Try.underlying5 Try.underlying9 (Kd.own_of_R (Kd.R_drewN HO175.out n_))
                          (try rw [c15b0]); (try rw [c18b0]); (try rw [c19b0]); (try rw [c20b0]); (try rw [c21b0]); (try rw [c22b0]); (try rw [c24b0])
                          refine value_ (w1 := ?_) (v := ?_) (by rfl) rfl ?_ ?_
                          rotate_left 2
                          · go_simp
                            constructor
                            · rfl
                            · rfl
                          clear hcv35
                          refine hK.out _ _ trivial (fun hHeld => ?_)
                          clear hK K
                          refine norm_ (a' := ?_) ?_ ?_
                          rotate_left
                          · show Act.put _ (some 61) _ = _
                            simp only [Act.put, List.setIfInBounds_toArray, List.set_cons_zero, List.set_cons_succ, i64_w, i32_w]
                            rfl
                          exact norm_ (by first | (simp only [putAll, Act.put, List.setIfInBounds_toArray, List.set_cons_zero, List.set_cons_succ]; done) | (simp only [putAll, Act.put, List.setIfInBounds_toArray, List.set_cons_zero, List.set_cons_succ]; rfl) | (simp only [putAll, Act.put, List.setIfInBounds_toArray, List.set_cons_zero, List.set_cons_succ, c15b0]; done) | (simp only [putAll, Act.put, List.setIfInBounds_toArray, List.set_cons_zero, List.set_cons_succ, c15b0]; rfl) | (simp only [putAll, Act.put, List.setIfInBounds_toArray, List.set_cons_zero, List.set_cons_succ, c15b0, c18b0]; done) | (simp only [putAll, Act.put, List.setIfInBounds_toArray, List.set_cons_zero, List.set_cons_succ, c15b0, c18b0]; rfl) | (simp only [putAll, Act.put, List.setIfInBounds_toArray, List.set_cons_zero, List.set_cons_succ, c15b0, c18b0, c19b0]; done) | (simp only [putAll, Act.put, List.setIfInBounds_toArray, List.set_cons_zero, List.set_cons_succ, c15b0, c18b0, c19b0]; rfl) | (simp only [putAll, Act.put, List.setIfInBounds_toArray, List.set_cons_zero, List.set_cons_succ, c15b0, c18b0, c19b0, c20b0]; done) | (simp only [putAll, Act.put, List.setIfInBounds_toArray, List.set_cons_zero, List.set_cons_succ, c15b0, c18b0, c19b0, c20b0]; rfl) | (simp only [putAll, Act.put, List.setIfInBounds_toArray, List.set_cons_zero, List.set_cons_succ, c15b0, c18b0, c19b0, c20b0, c21b0]; done) | (simp only [putAll, Act.put, List.setIfInBounds_toArray, List.set_cons_zero, List.set_cons_succ, c15b0, c18b0, c19b0, c20b0, c21b0]; rfl) | (simp only [putAll, Act.put, List.setIfInBounds_toArray, List.set_cons_zero, List.set_cons_succ, c15b0, c18b0, c19b0, c20b0, c21b0, c22b0]; done) | (simp only [putAll, Act.put, List.setIfInBounds_toArray, List.set_cons_zero, List.set_cons_succ, c15b0, c18b0, c19b0, c20b0, c21b0, c22b0]; rfl) | (simp only [putAll, Act.put, List.setIfInBounds_toArray, List.set_cons_zero, List.set_cons_succ, c15b0, c18b0, c19b0, c20b0, c21b0, c22b0, c24b0]; done) | (simp only [putAll, Act.put, List.setIfInBounds_toArray, List.set_cons_zero, List.set_cons_succ, c15b0, c18b0, c19b0, c20b0, c21b0, c22b0, c24b0]; rfl)) (hJ2_4_5_9_10_12_13 (v168, v171, v174) _ ⟨(by (with_reducible repeat (first | apply Kd.R_alloc | apply Kd.R_drewN | apply Kd.R_drew)); exact HO166.out), (by (with_reducible repeat (first | apply Kd.R_alloc | apply Kd.R_drewN | apply Kd.R_drew)); exact HO169.out), (by (with_reducible repeat (first | apply Kd.R_alloc | apply Kd.R_drewN | apply Kd.R_drew)); exact HO172.out), (by (with_reducible repeat (first | apply Kd.R_alloc | apply Kd.R_drewN | apply Kd.R_drew)); exact HO175.out), (by repeat (first | (with_reducible first | exact HB.out | apply below_alloc | apply pw_below_drewN | apply below_drew1) | exact HB.out))⟩)
                      rintro ⟨v168, v171, v174⟩ w35 ⟨h0_, h1_, h2_, h3_, h4_⟩
                      have n0_ : Aside0 (Kd.R (Kd.int .u8) 5 w35 w.heap.size (fun k_ => some k_ ≠ (v168 : Value).ownBlock ∧ some k_ ≠ (v171 : Value).ownBlock ∧ some k_ ≠ (v174 : Value).ownBlock) v165 t164) := ⟨h0_⟩
                      have n1_ : Aside0 (Kd.R (Kd.int .u8) 5 w35 w.heap.size (fun k_ => some k_ ≠ (v165 : Value).ownBlock ∧ some k_ ≠ (v171 : Value).ownBlock ∧ some k_ ≠ (v174 : Value).ownBlock) v168 t167) := ⟨h1_⟩
                      have n2_ : Aside0 (Kd.R (Kd.int .u8) 5 w35 w.heap.size (fun k_ => some k_ ≠ (v165 : Value).ownBlock ∧ some k_ ≠ (v168 : Value).ownBlock ∧ some k_ ≠ (v174 : Value).ownBlock) v171 t170) := ⟨h2_⟩
                      have n3_ : Aside0 (Kd.R (Kd.int .u8) 5 w35 w.heap.size (fun k_ => some k_ ≠ (v165 : Value).ownBlock ∧ some k_ ≠ (v168 : Value).ownBlock ∧ some k_ ≠ (v171 : Value).ownBlock) v174 t173) := ⟨h3_⟩
                      have n4_ : Aside0 (Below w.heap.size w w35) := ⟨h4_⟩
                      clear HB
                      clear h0_ h1_ h2_ h3_ h4_
                      have HO166 := n0_
                      have HO169 := n1_
                      have HO172 := n2_
                      have HO175 := n3_
                      have HB := n4_
                      clear n0_ n1_ n2_ n3_ n4_
                      have hHeld := trivial
                      have CA23 := fun W => dolmenalike_Code.calls t160 t176 W A23.out
                      try simp only [errW_none, errW_some] at CA23
                      refine norm_ (a' := ?_) ?_ ?_
                      rotate_left
                      · simp only [putAll, Act.put, List.setIfInBounds_toArray, List.set_cons_zero, List.set_cons_succ]
                        rfl
                      (try rw [c15b0]); (try rw [c18b0]); (try rw [c19b0]); (try rw [c20b0]); (try rw [c21b0]); (try rw [c22b0]); (try rw [c24b0])
                      refine pure_ (i := 14) (N := some 62) (v := ?_) (a' := ?_) #[true, true, true, true, true, true, true, true, true, true, true, true, true, true, true, false, false, false, false, false, false, false, false, false, false, false, false, false, false, false, false, false, false, false, false, false, false, false, false, false, false, false, false, false, false, false] rfl rfl (any_of HT_.out (by kernel_rfl)) (fun _ _ _ h => h) (Or.inl ⟨by rfl, ?_⟩) ?_ ?_
                      rotate_left
                      · intro w'
                        go_simp
                        with_reducible rfl
                      rotate_left
                      · simp only [Act.put, List.setIfInBounds_toArray, List.set_cons_zero, List.set_cons_succ, i64_w, i32_w]
                        rfl
                      (try rw [c15b0]); (try rw [c18b0]); (try rw [c19b0]); (try rw [c20b0]); (try rw [c21b0]); (try rw [c22b0]); (try rw [c24b0])
                      refine pure_ (i := 15) (N := some 63) (v := ?_) (a' := ?_) #[true, true, true, true, true, true, true, true, true, true, true, true, true, true, true, true, false, false, false, false, false, false, false, false, false, false, false, false, false, false, false, false, false, false, false, false, false, false, false, false, false, false, false, false, false, false] rfl rfl (any_of HT_.out (by kernel_rfl)) (fun _ _ _ h => h) (Or.inl ⟨by rfl, ?_⟩) ?_ ?_
                      rotate_left
                      · intro w'
                        go_simp
                        with_reducible rfl
                      rotate_left
                      · simp only [Act.put, List.setIfInBounds_toArray, List.set_cons_zero, List.set_cons_succ, i64_w, i32_w]
                        rfl
                      (try rw [c15b0]); (try rw [c18b0]); (try rw [c19b0]); (try rw [c20b0]); (try rw [c21b0]); (try rw [c22b0]); (try rw [c24b0])
                      refine pure_ (i := 16) (N := some 64) (v := ?_) (a' := ?_) #[true, true, true, true, true, true, true, true, true, true, true, true, true, true, true, true, true, false, false, false, false, false, false, false, false, false, false, false, false, false, false, false, false, false, false, false, false, false, false, false, false, false, false, false, false, false] rfl rfl (any_of HT_.out (by kernel_rfl)) (fun _ _ _ h => h) (Or.inl ⟨by rfl, ?_⟩) ?_ ?_
                      rotate_left
                      · intro w'
                        go_simp
                        with_reducible rfl
                      rotate_left
                      · simp only [Act.put, List.setIfInBounds_toArray, List.set_cons_zero, List.set_cons_succ, i64_w, i32_w]
                        rfl
                      (try rw [c15b0]); (try rw [c18b0]); (try rw [c19b0]); (try rw [c20b0]); (try rw [c21b0]); (try rw [c22b0]); (try rw [c24b0])
                      refine pure_ (i := 17) (N := some 65) (v := ?_) (a' := ?_) #[true, true, true, true, true, true, true, true, true, true, true, true, true, true, true, true, true, true, false, false, false, false, false, false, false, false, false, false, false, false, false, false, false, false, false, false, false, false, false, false, false, false, false, false, false, false] rfl rfl (any_of HT_.out (by kernel_rfl)) (fun _ _ _ h => h) (Or.inl ⟨by rfl, ?_⟩) ?_ ?_
                      rotate_left
                      · intro w'
                        go_simp
                        with_reducible rfl
                      rotate_left
                      · simp only [Act.put, List.setIfInBounds_toArray, List.set_cons_zero, List.set_cons_succ, i64_w, i32_w]
                        rfl
                      (try rw [c15b0]); (try rw [c18b0]); (try rw [c19b0]); (try rw [c20b0]); (try rw [c21b0]); (try rw [c22b0]); (try rw [c24b0])
                      refine pure_ (i := 18) (N := some 66) (v := ?_) (a' := ?_) #[true, true, true, true, true, true, true, true, true, true, true, true, true, true, true, true, true, true, true, false, false, false, false, false, false, false, false, false, false, false, false, false, false, false, false, false, false, false, false, false, false, false, false, false, false, false] rfl rfl (any_of HT_.out (by kernel_rfl)) (fun _ _ _ h => h) (Or.inl ⟨by rfl, ?_⟩) ?_ ?_
                      rotate_left
                      · intro w'
                        go_simp
                        with_reducible rfl
                      rotate_left
                      · simp only [Act.put, List.setIfInBounds_toArray, List.set_cons_zero, List.set_cons_succ, i64_w, i32_w]
                        rfl
                      (try rw [c15b0]); (try rw [c18b0]); (try rw [c19b0]); (try rw [c20b0]); (try rw [c21b0]); (try rw [c22b0]); (try rw [c24b0])
                      refine pure_ (i := 19) (N := some 67) (v := ?_) (a' := ?_) #[true, true, true, true, true, true, true, true, true, true, true, true, true, true, true, true, true, true, true, true, false, false, false, false, false, false, false, false, false, false, false, false, false, false, false, false, false, false, false, false, false, false, false, false, false, false] rfl rfl (any_of HT_.out (by kernel_rfl)) (fun _ _ _ h => h) (Or.inl ⟨by rfl, ?_⟩) ?_ ?_
                      rotate_left
                      · intro w'
                        go_simp
                        with_reducible rfl
                      rotate_left
                      · simp only [Act.put, List.setIfInBounds_toArray, List.set_cons_zero, List.set_cons_succ, i64_w, i32_w]
                        rfl
                      (try rw [c15b0]); (try rw [c18b0]); (try rw [c19b0]); (try rw [c20b0]); (try rw [c21b0]); (try rw [c22b0]); (try rw [c24b0])
                      refine pure_ (i := 20) (N := some 68) (v := ?_) (a' := ?_) #[true, true, true, true, true, true, true, true, true, true, true, true, true, true, true, true, true, true, true, true, true, false, false, false, false, false, false, false, false, false, false, false, false, false, false, false, false, false, false, false, false, false, false, false, false, false] rfl rfl (any_of HT_.out (by kernel_rfl)) (fun _ _ _ h => h) (Or.inl ⟨by rfl, ?_⟩) ?_ ?_
                      rotate_left
                      · intro w'
                        go_simp
                        with_reducible rfl
                      rotate_left
                      · simp only [Act.put, List.setIfInBounds_toArray, List.set_cons_zero, List.set_cons_succ, i64_w, i32_w]
                        rfl
                      (try rw [c15b0]); (try rw [c18b0]); (try rw [c19b0]); (try rw [c20b0]); (try rw [c21b0]); (try rw [c22b0]); (try rw [c24b0])
                      refine pure_ (i := 21) (N := some 69) (v := ?_) (a' := ?_) #[true, true, true, true, true, true, true, true, true, true, true, true, true, true, true, true, true, true, true, true, true, true, false, false, false, false, false, false, false, false, false, false, false, false, false, false, false, false, false, false, false, false, false, false, false, false] rfl rfl (any_of HT_.out (by kernel_rfl)) (fun _ _ _ h => h) (Or.inl ⟨by rfl, ?_⟩) ?_ ?_
                      rotate_left
                      · intro w'
                        go_simp
                        with_reducible rfl
                      rotate_left
                      · simp only [Act.put, List.setIfInBounds_toArray, List.set_cons_zero, List.set_cons_succ, i64_w, i32_w]
                        rfl
                      (try rw [c15b0]); (try rw [c18b0]); (try rw [c19b0]); (try rw [c20b0]); (try rw [c21b0]); (try rw [c22b0]); (try rw [c24b0])
                      refine pure_ (i := 22) (N := some 70) (v := ?_) (a' := ?_) #[true, true, true, true, true, true, true, true, true, true, true, true, true, true, true, true, true, true, true, true, true, true, true, false, false, false, false, false, false, false, false, false, false, false, false, false, false, false, false, false, false, false, false, false, false, false] rfl rfl (any_of HT_.out (by kernel_rfl)) (fun _ _ _ h => h) (Or.inl ⟨by rfl, ?_⟩) ?_ ?_
                      rotate_left
                      · intro w'
                        go_simp
                        with_reducible rfl
                      rotate_left
                      · simp only [Act.put, List.setIfInBounds_toArray, List.set_cons_zero, List.set_cons_succ, i64_w, i32_w]
                        rfl
                      (try rw [c15b0]); (try rw [c18b0]); (try rw [c19b0]); (try rw [c20b0]); (try rw [c21b0]); (try rw [c22b0]); (try rw [c24b0])
                      refine pure_ (i := 23) (N := some 71) (v := ?_) (a' := ?_) #[true, true, true, true, true, true, true, true, true, true, true, true, true, true, true, true, true, true, true, true, true, true, true, true, false, false, false, false, false, false, false, false, false, false, false, false, false, false, false, false, false, false, false, false, false, false] rfl rfl (any_of HT_.out (by kernel_rfl)) (fun _ _ _ h => h) (Or.inl ⟨by rfl, ?_⟩) ?_ ?_
                      rotate_left
                      · intro w'
                        go_simp
                        with_reducible rfl
                      rotate_left
                      · simp only [Act.put, List.setIfInBounds_toArray, List.set_cons_zero, List.set_cons_succ, i64_w, i32_w]
                        rfl
                      (try rw [c15b0]); (try rw [c18b0]); (try rw [c19b0]); (try rw [c20b0]); (try rw [c21b0]); (try rw [c22b0]); (try rw [c24b0])
                      refine pure_ (i := 24) (N := some 72) (v := ?_) (a' := ?_) #[true, true, true, true, true, true, true, true, true, true, true, true, true, true, true, true, true, true, true, true, true, true, true, true, true, false, false, false, false, false, false, false, false, false, false, false, false, false, false, false, false, false, false, false, false, false] rfl rfl (any_of HT_.out (by kernel_rfl)) (fun _ _ _ h => h) (Or.inl ⟨by rfl, ?_⟩) ?_ ?_
                      rotate_left
                      · intro w'
                        go_simp
                        with_reducible rfl
                      rotate_left
                      · simp only [Act.put, List.setIfInBounds_toArray, List.set_cons_zero, List.set_cons_succ, i64_w, i32_w]
                        rfl
                      (try rw [c15b0]); (try rw [c18b0]); (try rw [c19b0]); (try rw [c20b0]); (try rw [c21b0]); (try rw [c22b0]); (try rw [c24b0])
                      refine pure_ (i := 25) (N := some 73) (v := ?_) (a' := ?_) #[true, true, true, true, true, true, true, true, true, true, true, true, true, true, true, true, true, true, true, true, true, true, true, true, true, true, false, false, false, false, false, false, false, false, false, false, false, false, false, false, false, false, false, false, false, false] rfl rfl (any_of HT_.out (by kernel_rfl)) (fun _ _ _ h => h) (Or.inl ⟨by rfl, ?_⟩) ?_ ?_
                      rotate_left
                      · intro w'
                        go_simp
                        with_reducible rfl
                      rotate_left
                      · simp only [Act.put, List.setIfInBounds_toArray, List.set_cons_zero, List.set_cons_succ, i64_w, i32_w]
                        rfl
                      (try rw [c15b0]); (try rw [c18b0]); (try rw [c19b0]); (try rw [c20b0]); (try rw [c21b0]); (try rw [c22b0]); (try rw [c24b0])
                      refine pure_ (i := 26) (N := some 74) (v := ?_) (a' := ?_) #[true, true, true, true, true, true, true, true, true, true, true, true, true, true, true, true, true, true, true, true, true, true, true, true, true, true, true, false, false, false, false, false, false, false, false, false, false, false, false, false, false, false, false, false, false, false] rfl rfl (any_of HT_.out (by kernel_rfl)) (fun _ _ _ h => h) (Or.inl ⟨by rfl, ?_⟩) ?_ ?_
                      rotate_left
                      · intro w'
                        go_simp
                        with_reducible rfl
                      rotate_left
                      · simp only [Act.put, List.setIfInBounds_toArray, List.set_cons_zero, List.set_cons_succ, i64_w, i32_w]
                        rfl
                      (try rw [c15b0]); (try rw [c18b0]); (try rw [c19b0]); (try rw [c20b0]); (try rw [c21b0]); (try rw [c22b0]); (try rw [c24b0])
                      refine pure_ (i := 27) (N := some 75) (v := ?_) (a' := ?_) #[true, true, true, true, true, true, true, true, true, true, true, true, true, true, true, true, true, true, true, true, true, true, true, true, true, true, true, true, false, false, false, false, false, false, false, false, false, false, false, false, false, false, false, false, false, false] rfl rfl (any_of HT_.out (by kernel_rfl)) (fun _ _ _ h => h) (Or.inl ⟨by rfl, ?_⟩) ?_ ?_
                      rotate_left
                      · intro w'
                        go_simp
                        with_reducible rfl
                      rotate_left
                      · simp only [Act.put, List.setIfInBounds_toArray, List.set_cons_zero, List.set_cons_succ, i64_w, i32_w]
                        rfl
                      (try rw [c15b0]); (try rw [c18b0]); (try rw [c19b0]); (try rw [c20b0]); (try rw [c21b0]); (try rw [c22b0]); (try rw [c24b0])
                      refine pure_ (i := 28) (N := some 76) (v := ?_) (a' := ?_) #[true, true, true, true, true, true, true, true, true, true, true, true, true, true, true, true, true, true, true, true, true, true, true, true, true, true, true, true, true, false, false, false, false, false, false, false, false, false, false, false, false, false, false, false, false, false] rfl rfl (any_of HT_.out (by kernel_rfl)) (fun _ _ _ h => h) (Or.inl ⟨by rfl, ?_⟩) ?_ ?_
                      rotate_left
                      · intro w'
                        go_simp
                        with_reducible rfl
                      rotate_left
                      · simp only [Act.put, List.setIfInBounds_toArray, List.set_cons_zero, List.set_cons_succ, i64_w, i32_w]
                        rfl
                      (try rw [c15b0]); (try rw [c18b0]); (try rw [c19b0]); (try rw [c20b0]); (try rw [c21b0]); (try rw [c22b0]); (try rw [c24b0])
                      refine pure_ (i := 29) (N := some 77) (v := ?_) (a' := ?_) #[true, true, true, true, true, true, true, true, true, true, true, true, true, true, true, true, true, true, true, true, true, true, true, true, true, true, true, true, true, true, false, false, false, false, false, false, false, false, false, false, false, false, false, false, false, false] rfl rfl (any_of HT_.out (by kernel_rfl)) (fun _ _ _ h => h) (Or.inl ⟨by rfl, ?_⟩) ?_ ?_
                      rotate_left
                      · intro w'
                        go_simp
                        with_reducible rfl
                      rotate_left
                      · simp only [Act.put, List.setIfInBounds_toArray, List.set_cons_zero, List.set_cons_succ, i64_w, i32_w]
                        rfl
                      (try rw [c15b0]); (try rw [c18b0]); (try rw [c19b0]); (try rw [c20b0]); (try rw [c21b0]); (try rw [c22b0]); (try rw [c24b0])
                      refine pure_ (i := 30) (N := some 78) (v := ?_) (a' := ?_) #[true, true, true, true, true, true, true, true, true, true, true, true, true, true, true, true, true, true, true, true, true, true, true, true, true, true, true, true, true, true, true, false, false, false, false, false, false, false, false, false, false, false, false, false, false, false] rfl rfl (any_of HT_.out (by kernel_rfl)) (fun _ _ _ h => h) (Or.inl ⟨by rfl, ?_⟩) ?_ ?_
                      rotate_left
                      · intro w'
                        go_simp
                        with_reducible rfl
                      rotate_left
                      · simp only [Act.put, List.setIfInBounds_toArray, List.set_cons_zero, List.set_cons_succ, i64_w, i32_w]
                        rfl
                      (try rw [c15b0]); (try rw [c18b0]); (try rw [c19b0]); (try rw [c20b0]); (try rw [c21b0]); (try rw [c22b0]); (try rw [c24b0])
                      refine pure_ (i := 31) (N := some 79) (v := ?_) (a' := ?_) #[true, true, true, true, true, true, true, true, true, true, true, true, true, true, true, true, true, true, true, true, true, true, true, true, true, true, true, true, true, true, true, true, false, false, false, false, false, false, false, false, false, false, false, false, false, false] rfl rfl (any_of HT_.out (by kernel_rfl)) (fun _ _ _ h => h) (Or.inl ⟨by rfl, ?_⟩) ?_ ?_
                      rotate_left
                      · intro w'
                        go_simp
                        with_reducible rfl
                      rotate_left
                      · simp only [Act.put, List.setIfInBounds_toArray, List.set_cons_zero, List.set_cons_succ, i64_w, i32_w]
                        rfl
                      (try rw [c15b0]); (try rw [c18b0]); (try rw [c19b0]); (try rw [c20b0]); (try rw [c21b0]); (try rw [c22b0]); (try rw [c24b0])
                      refine pure_ (i := 32) (N := some 80) (v := ?_) (a' := ?_) #[true, true, true, true, true, true, true, true, true, true, true, true, true, true, true, true, true, true, true, true, true, true, true, true, true, true, true, true, true, true, true, true, true, false, false, false, false, false, false, false, false, false, false, false, false, false] rfl rfl (any_of HT_.out (by kernel_rfl)) (fun _ _ _ h => h) (Or.inl ⟨by rfl, ?_⟩) ?_ ?_
                      rotate_left
                      · intro w'
                        go_simp
                        with_reducible rfl
                      rotate_left
                      · simp only [Act.put, List.setIfInBounds_toArray, List.set_cons_zero, List.set_cons_succ, i64_w, i32_w]
                        rfl
                      (try rw [c15b0]); (try rw [c18b0]); (try rw [c19b0]); (try rw [c20b0]); (try rw [c21b0]); (try rw [c22b0]); (try rw [c24b0])
                      refine pure_ (i := 33) (N := some 81) (v := ?_) (a' := ?_) #[true, true, true, true, true, true, true, true, true, true, true, true, true, true, true, true, true, true, true, true, true, true, true, true, true, true, true, true, true, true, true, true, true, true, false, false, false, false, false, false, false, false, false, false, false, false] rfl rfl (any_of HT_.out (by kernel_rfl)) (fun _ _ _ h => h) (Or.inl ⟨by rfl, ?_⟩) ?_ ?_
                      rotate_left
                      · intro w'
                        go_simp
                        with_reducible rfl
                      rotate_left
                      · simp only [Act.put, List.setIfInBounds_toArray, List.set_cons_zero, List.set_cons_succ, i64_w, i32_w]
                        rfl
                      (try rw [c15b0]); (try rw [c18b0]); (try rw [c19b0]); (try rw [c20b0]); (try rw [c21b0]); (try rw [c22b0]); (try rw [c24b0])
                      refine pure_ (i := 34) (N := some 82) (v := ?_) (a' := ?_) #[true, true, true, true, true, true, true, true, true, true, true, true, true, true, true, true, true, true, true, true, true, true, true, true, true, true, true, true, true, true, true, true, true, true, true, false, false, false, false, false, false, false, false, false, false, false] rfl rfl (any_of HT_.out (by kernel_rfl)) (fun _ _ _ h => h) (Or.inl ⟨by rfl, ?_⟩) ?_ ?_
                      rotate_left
                      · intro w'
                        go_simp
                        with_reducible rfl
                      rotate_left
                      · simp only [Act.put, List.setIfInBounds_toArray, List.set_cons_zero, List.set_cons_succ, i64_w, i32_w]
                        rfl
                      (try rw [c15b0]); (try rw [c18b0]); (try rw [c19b0]); (try rw [c20b0]); (try rw [c21b0]); (try rw [c22b0]); (try rw [c24b0])
                      refine pure_ (i := 35) (N := some 83) (v := ?_) (a' := ?_) #[true, true, true, true, true, true, true, true, true, true, true, true, true, true, true, true, true, true, true, true, true, true, true, true, true, true, true, true, true, true, true, true, true, true, true, true, false, false, false, false, false, false, false, false, false, false] rfl rfl (any_of HT_.out (by kernel_rfl)) (fun _ _ _ h => h) (Or.inl ⟨by rfl, ?_⟩) ?_ ?_
                      rotate_left
                      · intro w'
                        go_simp
                        with_reducible rfl
                      rotate_left
                      · simp only [Act.put, List.setIfInBounds_toArray, List.set_cons_zero, List.set_cons_succ, i64_w, i32_w]
                        rfl
                      (try rw [c15b0]); (try rw [c18b0]); (try rw [c19b0]); (try rw [c20b0]); (try rw [c21b0]); (try rw [c22b0]); (try rw [c24b0])
                      refine pure_ (i := 36) (N := some 84) (v := ?_) (a' := ?_) #[true, true, true, true, true, true, true, true, true, true, true, true, true, true, true, true, true, true, true, true, true, true, true, true, true, true, true, true, true, true, true, true, true, true, true, true, true, false, false, false, false, false, false, false, false, false] rfl rfl (any_of HT_.out (by kernel_rfl)) (fun _ _ _ h => h) (Or.inl ⟨by rfl, ?_⟩) ?_ ?_
                      rotate_left
                      · intro w'
                        go_simp
                        with_reducible rfl
                      rotate_left
                      · simp only [Act.put, List.setIfInBounds_toArray, List.set_cons_zero, List.set_cons_succ, i64_w, i32_w]
                        rfl
                      (try rw [c15b0]); (try rw [c18b0]); (try rw [c19b0]); (try rw [c20b0]); (try rw [c21b0]); (try rw [c22b0]); (try rw [c24b0])
                      refine pure_ (i := 37) (N := some 85) (v := ?_) (a' := ?_) #[true, true, true, true, true, true, true, true, true, true, true, true, true, true, true, true, true, true, true, true, true, true, true, true, true, true, true, true, true, true, true, true, true, true, true, true, true, true, false, false, false, false, false, false, false, false] rfl rfl (any_of HT_.out (by kernel_rfl)) (fun _ _ _ h => h) (Or.inl ⟨by rfl, ?_⟩) ?_ ?_
                      rotate_left
                      · intro w'
                        go_simp
                        with_reducible rfl
                      rotate_left
                      · simp only [Act.put, List.setIfInBounds_toArray, List.set_cons_zero, List.set_cons_succ, i64_w, i32_w]
                        rfl
                      (try rw [c15b0]); (try rw [c18b0]); (try rw [c19b0]); (try rw [c20b0]); (try rw [c21b0]); (try rw [c22b0]); (try rw [c24b0])
                      refine pure_ (i := 39) (N := some 87) (v := ?_) (a' := ?_) #[true, true, true, true, true, true, true, true, true, true, true, true, true, true, true, true, true, true, true, true, true, true, true, true, true, true, true, true, true, true, true, true, true, true, true, true, true, true, false, true, false, false, false, false, false, false] rfl rfl (any_of HT_.out (by kernel_rfl)) (fun _ _ _ h => h) (Or.inl ⟨by rfl, ?_⟩) ?_ ?_
                      rotate_left
                      · intro w'
                        go_simp
                        with_reducible rfl
                      rotate_left
                      · simp only [Act.put, List.setIfInBounds_toArray, List.set_cons_zero, List.set_cons_succ, i64_w, i32_w]
                        rfl
                      (try rw [c15b0]); (try rw [c18b0]); (try rw [c19b0]); (try rw [c20b0]); (try rw [c21b0]); (try rw [c22b0]); (try rw [c24b0])
                      refine one_ (i := 38) (N := some 86) #[true, true, true, true, true, true, true, true, true, true, true, true, true, true, true, true, true, true, true, true, true, true, true, true, true, true, true, true, true, true, true, true, true, true, true, true, true, true, true, true, false, false, false, false, false, false] rfl rfl (one_of HT_.out (by kernel_rfl)) (by decide) (fun K hK => ?_)
                      (try rw [c15b0]); (try rw [c18b0]); (try rw [c19b0]); (try rw [c20b0]); (try rw [c21b0]); (try rw [c22b0]); (try rw [c24b0])
                      refine goes_ Try.func15 (by kernel_rfl) rfl #[errW t160] (by rfl) rfl rfl (by (try simp only [List.map_toArray, List.map_cons, List.map_nil]); first | done | rfl | (simp only [List.length_drop, List.length_take]; rfl)) ?_
                      with_reducible refine (CA23 _).mono ?_
                      rintro e w' ⟨rfl, ⟨nd, rfl⟩⟩
                      refine ⟨_, rfl, ?_⟩
                      refine hK.out _ _ trivial (fun hHeld => ?_)
                      clear hK K
                      refine norm_ (a' := ?_) ?_ ?_
                      rotate_left
                      · show Act.put _ (some 86) _ = _
                        simp only [Act.put, List.setIfInBounds_toArray, List.set_cons_zero, List.set_cons_succ, i64_w, i32_w]
                        rfl
                      (try rw [c15b0]); (try rw [c18b0]); (try rw [c19b0]); (try rw [c20b0]); (try rw [c21b0]); (try rw [c22b0]); (try rw [c24b0])
                      refine pure_ (i := 40) (N := some 88) (v := ?_) (a' := ?_) #[true, true, true, true, true, true, true, true, true, true, true, true, true, true, true, true, true, true, true, true, true, true, true, true, true, true, true, true, true, true, true, true, true, true, true, true, true, true, true, true, true, false, false, false, false, false] rfl rfl (any_of HT_.out (by kernel_rfl)) (fun _ _ _ h => h) (Or.inl ⟨by rfl, ?_⟩) ?_ ?_
                      rotate_left
                      · intro w'
                        go_simp
                        with_reducible rfl
                      rotate_left
                      · simp only [Act.put, List.setIfInBounds_toArray, List.set_cons_zero, List.set_cons_succ, i64_w, i32_w]
                        rfl
                      (try rw [c15b0]); (try rw [c18b0]); (try rw [c19b0]); (try rw [c20b0]); (try rw [c21b0]); (try rw [c22b0]); (try rw [c24b0])
                      refine pure_ (i := 41) (N := some 89) (v := ?_) (a' := ?_) #[true, true, true, true, true, true, true, true, true, true, true, true, true, true, true, true, true, true, true, true, true, true, true, true, true, true, true, true, true, true, true, true, true, true, true, true, true, true, true, true, true, true, false, false, false, false] rfl rfl (any_of HT_.out (by kernel_rfl)) (fun _ _ _ h => h) (Or.inl ⟨by rfl, ?_⟩) ?_ ?_
                      rotate_left
                      · intro w'
                        go_simp
                        with_reducible rfl
                      rotate_left
                      · simp only [Act.put, List.setIfInBounds_toArray, List.set_cons_zero, List.set_cons_succ, i64_w, i32_w]
                        rfl
                      (try rw [c15b0]); (try rw [c18b0]); (try rw [c19b0]); (try rw [c20b0]); (try rw [c21b0]); (try rw [c22b0]); (try rw [c24b0])
                      refine pure_ (i := 42) (N := some 90) (v := ?_) (a' := ?_) #[true, true, true, true, true, true, true, true, true, true, true, true, true, true, true, true, true, true, true, true, true, true, true, true, true, true, true, true, true, true, true, true, true, true, true, true, true, true, true, true, true, true, true, false, false, false] rfl rfl (any_of HT_.out (by kernel_rfl)) (fun _ _ _ h => h) (Or.inl ⟨by rfl, ?_⟩) ?_ ?_
                      rotate_left
                      · intro w'
                        go_simp
                        with_reducible rfl
                      rotate_left
                      · simp only [Act.put, List.setIfInBounds_toArray, List.set_cons_zero, List.set_cons_succ, i64_w, i32_w]
                        rfl
                      (try rw [c15b0]); (try rw [c18b0]); (try rw [c19b0]); (try rw [c20b0]); (try rw [c21b0]); (try rw [c22b0]); (try rw [c24b0])
                      refine one_ (i := 43) (N := some 91) #[true, true, true, true, true, true, true, true, true, true, true, true, true, true, true, true, true, true, true, true, true, true, true, true, true, true, true, true, true, true, true, true, true, true, true, true, true, true, true, true, true, true, true, true, false, false] rfl rfl (one_of HT_.out (by kernel_rfl)) (by decide) (fun K hK => ?_)
                      (try rw [c15b0]); (try rw [c18b0]); (try rw [c19b0]); (try rw [c20b0]); (try rw [c21b0]); (try rw [c22b0]); (try rw [c24b0])
                      refine goes_ Try.func10 (by kernel_rfl) rfl #[] (by rfl) rfl rfl (by (try simp only [List.map_toArray, List.map_cons, List.map_nil]); first | done | rfl | (simp only [List.length_drop, List.length_take]; rfl)) ?_
                      with_reducible refine (dolmenlaw1_awake.calls kj3  t177 _ A25.out).mono ?_
                      rintro e w36 ⟨rfl, hb⟩
                      refine ⟨_, rfl, ?_⟩
                      have n0_ := Aside0.mk (Kd.R_below (by (with_reducible repeat (first | apply Kd.R_alloc | apply Kd.R_drewN | apply Kd.R_drew)); exact HO166.out) hb)
                      have n1_ := Aside0.mk (Kd.R_below (by (with_reducible repeat (first | apply Kd.R_alloc | apply Kd.R_drewN | apply Kd.R_drew)); exact HO169.out) hb)
                      have n2_ := Aside0.mk (Kd.R_below (by (with_reducible repeat (first | apply Kd.R_alloc | apply Kd.R_drewN | apply Kd.R_drew)); exact HO172.out) hb)
                      have n3_ := Aside0.mk (Kd.R_below (by (with_reducible repeat (first | apply Kd.R_alloc | apply Kd.R_drewN | apply Kd.R_drew)); exact HO175.out) hb)
                      have n4_ := Aside0.mk (below_step (by repeat (first | (with_reducible first | exact HB.out | apply below_alloc | apply pw_below_drewN | apply below_drew1) | exact HB.out)) hb)
                      clear HO166
                      clear HO169
                      clear HO172
                      clear HO175
                      clear HB
                      have HO166 := n0_
                      have HO169 := n1_
                      have HO172 := n2_
                      have HO175 := n3_
                      have HB := n4_
                      clear n0_ n1_ n2_ n3_ n4_
                      (try clear hb)
                      (try clear hb2)
                      (try clear hk)
                      (try clear hi)
                      refine hK.out _ _ trivial (fun hHeld => ?_)
                      clear hK K
                      refine norm_ (a' := ?_) ?_ ?_
                      rotate_left
                      · show Act.put _ (some 91) _ = _
                        simp only [Act.put, List.setIfInBounds_toArray, List.set_cons_zero, List.set_cons_succ, i64_w, i32_w]
                        rfl
                      (try rw [c15b0]); (try rw [c18b0]); (try rw [c19b0]); (try rw [c20b0]); (try rw [c21b0]); (try rw [c22b0]); (try rw [c24b0])
                      refine pure_ (i := 44) (N := some 92) (v := ?_) (a' := ?_) #[true, true, true, true, true, true, true, true, true, true, true, true, true, true, true, true, true, true, true, true, true, true, true, true, true, true, true, true, true, true, true, true, true, true, true, true, true, true, true, true, true, true, true, true, true, false] rfl rfl (any_of HT_.out (by kernel_rfl)) (fun _ _ _ h => h) (Or.inl ⟨by rfl, ?_⟩) ?_ ?_
                      rotate_left
                      · intro w'
                        go_simp
                        with_reducible rfl
                      rotate_left
                      · simp only [Act.put, List.setIfInBounds_toArray, List.set_cons_zero, List.set_cons_succ, i64_w, i32_w]
                        rfl
                      (try rw [c15b0]); (try rw [c18b0]); (try rw [c19b0]); (try rw [c20b0]); (try rw [c21b0]); (try rw [c22b0]); (try rw [c24b0])
                      refine pure_ (i := 45) (N := some 6) (v := ?_) (a' := ?_) #[true, true, true, true, true, true, true, true, true, true, true, true, true, true, true, true, true, true, true, true, true, true, true, true, true, true, true, true, true, true, true, true, true, true, true, true, true, true, true, true, true, true, true, true, true, true] rfl rfl (any_of HT_.out (by kernel_rfl)) (fun _ _ _ h => h) (Or.inl ⟨by rfl, ?_⟩) ?_ ?_
                      rotate_left
                      · intro w'
                        go_simp
                        with_reducible rfl
                      rotate_left
                      · simp only [Act.put, List.setIfInBounds_toArray, List.set_cons_zero, List.set_cons_succ, i64_w, i32_w]
                        rfl
                      refine done_ (done_of HT_.out (by kernel_rfl)) ?_
                      try go_wp2
                      go_ret
                      exact ⟨by first | rfl | (simp [errW_none, errW_some] <;> rfl) | (simp [*, errW_none, errW_some] <;> rfl), by repeat (first | (with_reducible first | exact HB.out | apply below_alloc | apply pw_below_drewN | apply below_drew1) | exact HB.out)⟩
                    · rw [if_neg c24] at H
                      exact absurd H (by simp)
                  · rw [if_neg c22] at H
                    exact absurd H (by simp)
                · rw [if_neg c21] at H
                  exact absurd H (by simp)
              · rw [if_neg c20] at H
                exact absurd H (by simp)
            · rw [if_neg c19] at H
              exact absurd H (by simp)
          · rw [if_neg c18] at H
            exact absurd H (by simp)
        · rw [if_neg c15] at H
          exact absurd H (by simp)
/-- THE ONE PURE STATEMENT of dolmenlaw1_BitsVarints: yours. -/
def dolmenlaw1_BitsVarints.Pure : Prop := ∀ (a0 : Int) (a1 : ByteArray) (l2 : List Int), (Lit.int .u64 a0).wf = true → a1.size ≤ 140737488351232 → l2.length ≤ maxLen → l2.length * 1 ≤ 140737488351232 → (∀ x ∈ l2, (Lit.int .u8 x).wf = true) → ∃ k, dolmenlaw1_BitsVarints.f k a0 a1 l2 = some true
theorem dolmenlaw1_BitsVarints.walk (P : dolmenlaw1_BitsVarints.Pure) (a0 : Int) (a1 : ByteArray) (a2 : Option Addr) (len2 cap2 : Nat) (z2 : List Int) (w : World) (w0 : (Lit.int .u64 a0).wf = true) (w1 : a1.size ≤ 140737488351232) (w2 : (a2 = none ∧ len2 = 0 ∧ cap2 = 0 ∧ z2 = []) ∨ ∃ x, a2 = some x ∧ len2 ≤ cap2 ∧ cap2 ≤ maxLen ∧ z2.length = cap2 ∧ (∀ i, i < z2.length → w.cell? (x.add i) = some (.int .u8 (z2.getD i 0))) ∧ ∀ n ∈ z2, (Lit.int .u8 n).wf = true) (y2 : len2 * 1 ≤ 140737488351232) :
    Calls Try.prog 7 #[.int .u64 a0, .string a1, .slice a2 len2 cap2] w fun e w' => e = .returned (.bool true) ∧ Below w.heap.size w w' := by
  obtain ⟨l2, rfl, hr2, hm2, hw2, hc2⟩ := ReadsInt.ofRowC w2
  obtain ⟨k, h⟩ := P a0 a1 l2 w0 w1 hm2 y2 hw2
  refine (dolmenlaw1_BitsVarints.calls k a0 a1 _ _ l2 true w (Kd.C_of_reads (d := (0 : Int)) (h1 := fun _ => rfl) hr2) hc2 h).mono ?_
  rintro e w' ⟨rfl, hd⟩
  exact ⟨rfl, hd⟩

end Go.Proofs.Ytfonkhikdaegpaa.PBitsVarints
