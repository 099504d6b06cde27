/- Functions of the given program told as plain Lean functions, and that the code does what they tell: written by a program of this session over the print of the kit, with some contracts proved by hand. Conditions: those typed at each theorem. -/
import Derived.Test.YtafefcogpdacoaaPCrcPiecesx0
namespace Go.Proofs.Ytafefcogpdacoaa.PCrcPieces
open Go.RowKit Go.Proofs.YtafefcogpdacoaaW.PrintWords Go.Proofs.YtafefcogpdacoaaW.PrintLast Go.Proofs.YtafefcogpdacoaaW.PrintMore
attribute [local go_sem] max2_int min2_int max_two min_two max_three min_three max_four min_four   -- for this text's walks alone
set_option linter.unusedVariables false
set_option linter.unusedSimpArgs false

/-! ### crc_Sum_Add: function 10 -/

/-- One round over a bit. -/
def rnd (r : Int) : Int := Go.bits .xor .u32 (r / 2) (Go.bits .and .u32 3988292384 (IntKind.u32.wrap (-(Go.bits .and .u32 r 1))))
def rnds : Nat → Int → Int
  | 0, r => r
  | n + 1, r => rnds n (rnd r)
theorem rnds_succ (n : Nat) (r : Int) : rnds (n + 1) r = rnd (rnds n r) := by
  induction n generalizing r with
  | zero => rfl
  | succ n ih => rw [rnds, ih]; rfl
/-- One byte more. -/
def byt (r c : Int) : Int := rnds 8 (Go.bits .xor .u32 r (IntKind.u32.wrap c))
def byts (r : Int) (l : List Int) : Int := l.foldl byt r
def addT (t : Int) (l : List Int) : Int := Go.bits .xor .u32 (byts (Go.bits .xor .u32 t 4294967295) l) 4294967295
theorem byts_snoc (r : Int) (l : List Int) (c : Int) : byts r (l ++ [c]) = byt (byts r l) c := by simp [byts]
theorem rnd_hid (r : Int) : Hid (Go.bits .xor .u32 (r / 2) (Go.bits .and .u32 3988292384 (IntKind.u32.wrap (-(Go.bits .and .u32 r 1)))) = rnd r) := Lib.hid rfl

set_option maxHeartbeats 800000 in
theorem add_calls (g : Nat) (t : Int) (A : Option Addr) (c : Nat) (l : List Int) (w : World) (hc : w.cell? ⟨g, 0, none⟩ = some (.int .u32 t)) (hf : w.frozen? ⟨g, 0, none⟩ = false) (hr : Kd.C (Kd.int .u8) w A l.length l) :
    Calls Try.prog 10 #[.pointer (some ⟨g, 0, none⟩), .slice A l.length c] w fun e w' => e = .returned (.pointer (some ⟨g, 0, none⟩)) ∧ w' = w.setCell ⟨g, 0, none⟩ (.int .u32 (addT t l)) := by
  have hri := Kd.reads_of_C (d := (0 : Int)) hr
  have hlen : l.length ≤ 9223372036854775807 := hri.2.1
  have HR := Lib.hid hri
  clear hr hri
  obtain ⟨t0, ht0⟩ : ∃ t0, t0 = Go.bits .xor .u32 t 4294967295 := ⟨_, rfl⟩
  have HT := Lib.hid ht0
  go_enter Try.func10, Try.ntmps10
  go_wp2
  rw [← ht0]
  clear ht0
  go_loop [5, 17] (fun r i => ∃ (k : Nat) (r0 : Int), k ≤ l.length ∧ i = .int .i64 k ∧ r = .int .u32 r0 ∧ Hid (r0 = byts t0 (l.take k))) (fun _ i => l.length - (intOf i).toNat)
  case atStart => exact ⟨0, t0, Nat.zero_le _, rfl, rfl, Lib.hid rfl⟩
  case round =>
    obtain ⟨k, r0, hk, rfl, rfl, HV⟩ := hrel
    by_cases hlt : k < l.length
    · obtain ⟨ad, hA, hcell⟩ := HR.out.2.2 (by omega)
      subst hA
      have hck := hcell k hlt
      clear hcell
      obtain ⟨x, hx⟩ : ∃ x, l.getD k 0 = x := ⟨_, rfl⟩
      rw [hx] at hck
      have HX := Lib.hid hx
      clear hx
      obtain ⟨y, hy⟩ : ∃ y, y = Go.bits .xor .u32 r0 (IntKind.u32.wrap x) := ⟨_, rfl⟩
      have HY := Lib.hid hy
      clear hy
      go_wp2
      go_loop [5, 25] (fun r i => ∃ (j : Nat) (r1 : Int), j ≤ 8 ∧ i = .int .i64 j ∧ r = .int .u32 r1 ∧ Hid (r1 = rnds j y)) (fun _ i => 8 - (intOf i).toNat)
      case atStart => exact ⟨0, y, by omega, rfl, by rw [HY.out, IntKind.wrap_u32], Lib.hid rfl⟩
      case round =>
        obtain ⟨j, r1, hj, rfl, rfl, HW⟩ := hrel
        by_cases hj8 : j < 8
        · go_wp2
          go_round
          case rel => exact ⟨j + 1, rnd r1, by omega, by go_num, rfl, Lib.hid (by rw [rnds_succ, ← HW.out])⟩
          case measure => simp [intOf]; omega
        · obtain rfl : j = 8 := by omega
          go_wp2
          go_round
          case rel =>
            refine ⟨k + 1, r1, by omega, by go_num, rfl, Lib.hid ?_⟩
            rw [HW.out, HY.out, List.take_succ_eq_append_getElem hlt, byts_snoc, ← HV.out, ← HX.out, List.getD_eq_getElem?_getD, List.getElem?_eq_getElem hlt]; rfl
          case measure => simp [intOf]; omega
    · obtain rfl : k = l.length := by omega
      go_wp2
      go_ret
      refine ⟨rfl, ?_⟩
      rw [HV.out, List.take_length, HT.out]; rfl

theorem add_nil (v : Value) (w : World) : Calls Try.prog 10 #[.pointer none, v] w fun e w' => e = .returned (.pointer none) ∧ w' = w := by
  go_enter Try.func10, Try.ntmps10
  go_wp2
  go_ret
  exact ⟨rfl, rfl⟩

/-! ### crc_bytes: function 22 -/
def crc_bytes.l0 : Nat → Int → List Int → Int → Int → Option (List Int)
  | 0, _, _, _, _ => none
  | k + 1, x0, x4, x6, x7 => if x7 < x6 then (if 0 ≤ (wrap64 (8 * x7)) then (if x4.length < 140737488355328 then (crc_bytes.l0 k x0 (x4 ++ [(shr .u64 x0 (wrap64 (8 * x7))) % 256]) x6 (wrap64 (x7 + 1))) else (none)) else (none)) else (some x4)
def crc_bytes.f (k : Nat) (a0 : Int) (a1 : Int) : Option (List Int) := crc_bytes.l0 k a0 ([] : List Int) a1 0
theorem crc_bytes.mono_l : ∀ k, (∀ y0 y1 y2 y3, LeO (crc_bytes.l0 k y0 y1 y2 y3) (crc_bytes.l0 (k + 1) y0 y1 y2 y3))
  | 0 => fun _ _ _ _ r h => by simp [crc_bytes.l0] at h
  | k + 1 => by
    have ih0 := crc_bytes.mono_l k
    · intro y0 y1 y2 y3
      unfold crc_bytes.l0
      repeat' first
      | (with_reducible exact ih0 _ _ _ _)
      | (with_reducible exact LeO.refl _)
      | (with_reducible exact LeO.none _)
      | (with_reducible refine LeO.ite ?_ ?_)
      | (with_reducible refine LeO.bind ?_ (fun _ => ?_))
      | exact ih0 _ _ _ _
      | exact LeO.none _
      | refine LeO.ite ?_ ?_
      | refine LeO.bind ?_ (fun _ => ?_)
theorem crc_bytes.mono : ∀ a0 a1 k, LeO (crc_bytes.f k a0 a1) (crc_bytes.f (k + 1) a0 a1) := by
  intro a0 a1 k
  have ih0 := crc_bytes.mono_l k
  unfold crc_bytes.f
  repeat' first
      | (with_reducible exact ih0 _ _ _ _)
      | (with_reducible exact LeO.refl _)
      | (with_reducible exact LeO.none _)
      | (with_reducible refine LeO.ite ?_ ?_)
      | (with_reducible refine LeO.bind ?_ (fun _ => ?_))
      | exact ih0 _ _ _ _
      | exact LeO.none _
      | refine LeO.ite ?_ ?_
      | refine LeO.bind ?_ (fun _ => ?_)
set_option maxHeartbeats 8000000 in
set_option maxRecDepth 100000 in
theorem crc_bytes.calls (k : Nat) (a0 : Int) (a1 : Int) (r : List Int) (w : World) (h : crc_bytes.f k a0 a1 = some r) :
    Calls Try.prog 22 #[.int .u64 a0, .int .i64 a1] w fun e w' => ∃ v0_ : Value, e = .returned (v0_) ∧ Kd.R (Kd.int .u8) 5 w' w.heap.size (fun _ => True) v0_ r ∧ Below w.heap.size w w' := by
  have HB := Aside0.mk (Below.refl w.heap.size w)
  have H : (crc_bytes.l0 k a0 ([] : List Int) a1 0) = some r := h
  clear h
  have H' := Aside0.mk H
  clear H
  go_enter Try.func22, Try.ntmps22
  go_wp2
  go_loopg [4, 7] k (fun kq v4 v7 w' => ∃ (x4_1 : List Int) (x7_1 : Int), v7 = .int .i64 x7_1 ∧ Aside0 (crc_bytes.l0 kq a0 x4_1 a1 x7_1 = some r) ∧ Aside0 (kq ≤ k) ∧ Aside0 (Kd.R (Kd.int .u8) 5 w' w.heap.size (fun _ => True) v4 x4_1) ∧ Aside0 (Below w.heap.size w w'))
  case atStart => exact ⟨(([] : List Int)), (0), (by first | rfl | (simp; done) | (simp [*]; done)), H', ⟨Nat.le_refl _⟩, ⟨by first | exact Kd.R_nil _ _ _ _ _ | exact Kd.N_nil _ _ _ _ _ | exact Kd.V_nil _ _ _ _ _ | exact Kd.Q_nil _ _ _ _ _ | exact Kd.S_nil _ _ _ _ _⟩, ⟨by repeat (first | (with_reducible first | exact HB.out | apply below_alloc | apply pw_below_drewN | apply below_drew1) | exact HB.out)⟩⟩
  case round =>
    clear H'
    try clear c2
    try clear p2
    obtain ⟨x4_1, x7_1, rfl, HA, HK1, HO_4, HB⟩ := hrel
    cases gk with
    | zero => exact absurd HA.out (by simp [crc_bytes.l0])
    | succ k1 =>
      have H := HA.out
      clear HA
      simp only [crc_bytes.l0] at H
      by_cases c3 : x7_1 < a1
      · rw [if_pos c3] at H
        have c3b0 : decide (x7_1 < a1) = true := decide_eq_true c3
        clear c3
        obtain ⟨ji4, hji4⟩ : ∃ j_ : Int, (wrap64 (8 * x7_1)) = j_ := ⟨_, rfl⟩
        replace H : (if 0 ≤ (ji4) then (if x4_1.length < 140737488355328 then (crc_bytes.l0 k1 a0 (x4_1 ++ [(shr .u64 a0 (ji4)) % 256]) a1 (wrap64 (x7_1 + 1))) else (none)) else (none)) = some r := by first | (rw [hji4] at H; exact H) | (simp only [hji4] at H ⊢; exact H)
        have hji4w : (IntKind.i64.wrap (8 * x7_1)) = ji4 := (i64_w _).trans hji4
        by_cases c5 : 0 ≤ (ji4)
        · rw [if_pos c5] at H
          have c5b0 := eq_true c5
          have c5b1 : decide (0 ≤ (ji4)) = true := decide_eq_true c5
          clear c5
          obtain ⟨ji6, hji6⟩ : ∃ j_ : Int, (shr .u64 a0 (ji4)) = j_ := ⟨_, rfl⟩
          replace H : (if x4_1.length < 140737488355328 then (crc_bytes.l0 k1 a0 (x4_1 ++ [(ji6) % 256]) a1 (wrap64 (x7_1 + 1))) else (none)) = some r := by first | (rw [hji6] at H; exact H) | (simp only [hji6] at H ⊢; exact H)
          have hji6_ : (a0 / 2 ^ min (ji4).toNat 64) = ji6 := hji6
          have hji6z : (ji4) ≤ 64 → (a0 / 2 ^ (ji4).toNat) = ji6 := shr_small hji6
          by_cases c7 : x4_1.length < 140737488355328
          · rw [if_pos c7] at H
            have LMc7 := Aside0.mk c7
            clear c7
            obtain ⟨y101, hy101⟩ : ∃ y_ : List Int, y_ = (x4_1 ++ [(ji6) % 256]) := ⟨_, rfl⟩
            replace H : (crc_bytes.l0 k1 a0 y101 a1 (wrap64 (x7_1 + 1))) = some r := by first | (rw [hy101]; with_reducible exact H) | (have H2_ := (Option.bind_some _ _).symm.trans H; rw [hy101]; with_reducible exact H2_) | (have H2_ := (Option.bind_some _ _).symm.trans H; with_reducible exact H2_) | with_reducible exact H | (rw [hy101]; exact H) | exact H
            have Ny101 := Aside0.mk hy101
            clear hy101
            have H' := Aside0.mk H
            clear H
            go_wp2_with (first | ((with_reducible refine gate_builtin (b := .append) (xs := #[.tmp 10, .tmp 16]) rfl ?_); at_builtin; refine Kd.R_append (Kd.int .u8) (w0 := w) w.heap.size rfl (.tmp 10) (.tmp 16) 28 5 (.int .u8 0) 1 rfl Try.underlying28 info5 rfl (by decide) (by omega) u4 x4_1 ((ji6) % 256) [.int .u8 ((ji6) % 256)] (fun _ => True) (fun _ => False) rfl rfl ?aP (fun _ hk => hk.elim) ?aF ?aO ?aB ?aS ?aL ?_; (case aP => exact rfl); (case aB => exact (by repeat (first | (with_reducible first | exact HB.out | apply below_alloc | apply pw_below_drewN | apply below_drew1) | exact HB.out))); (case aF => exact (fun _ _ => trivial)); (case aO => exact (by (with_reducible repeat (first | apply Kd.R_alloc | apply Kd.R_drewN | apply Kd.R_drew)); exact HO_4.out)); (case aS => exact (below_size (by repeat (first | (with_reducible first | exact HB.out | apply below_alloc | apply pw_below_drewN | apply below_drew1) | exact HB.out)))); (case aL => have := LMc7.out; omega); intro v102 w8 ho hb hg hat; rw [← Ny101.out] at ho; have n0_ := Aside0.mk (hb); have n1_ := Aside0.mk (ho); clear HB; clear HO_4; have HB := n0_; have HO103 := n1_; clear n0_ n1_; clear ho hb hg hat))
            go_roundg k1
            case measure => have := HK1.out; omega
            case rel => exact ⟨(y101), (wrap64 (x7_1 + 1)), (by first | rfl | (simp; done) | (simp [*]; done)), H', ⟨by have := HK1.out; omega⟩, ⟨by (with_reducible repeat (first | apply Kd.R_alloc | apply Kd.R_drewN | apply Kd.R_drew)); exact HO103.out⟩, ⟨by repeat (first | (with_reducible first | exact HB.out | apply below_alloc | apply pw_below_drewN | apply below_drew1) | exact HB.out)⟩⟩
          · rw [if_neg c7] at H
            exact absurd H (by simp)
        · rw [if_neg c5] at H
          exact absurd H (by simp)
      · rw [if_neg c3] at H
        have c3b0 : decide (x7_1 < a1) = false := decide_eq_false c3
        clear c3
        obtain rfl := Option.some.inj H
        go_wp2
        go_ret
        exact ⟨_, by first | rfl | (simp [errW_none, errW_some] <;> rfl) | (simp [*, errW_none, errW_some] <;> rfl), by (with_reducible repeat (first | apply Kd.R_alloc | apply Kd.R_drewN | apply Kd.R_drew)); exact HO_4.out, by repeat (first | (with_reducible first | exact HB.out | apply below_alloc | apply pw_below_drewN | apply below_drew1) | exact HB.out)⟩

/-! ### crc_Sum_Word: function 11 -/

/-- A word's eight bytes. -/
def lay8 (x : Int) : List Int := [x % 256, x / 256 % 256, x / 65536 % 256, x / 16777216 % 256, x / 4294967296 % 256, x / 1099511627776 % 256, x / 281474976710656 % 256, x / 72057594037927936 % 256]
theorem bytes8 (x : Int) : crc_bytes.f 9 x 8 = some (lay8 x) := by
  simp only [crc_bytes.f, crc_bytes.l0]
  simp [wrap64, shr, IntKind.bits, lay8]
theorem word_calls (g : Nat) (t x : Int) (w : World) (hc : w.cell? ⟨g, 0, none⟩ = some (.int .u32 t)) (hf : w.frozen? ⟨g, 0, none⟩ = false) (hg : g < w.heap.size) :
    Calls Try.prog 11 #[.pointer (some ⟨g, 0, none⟩), .int .u64 x] w fun e w' => e = .returned (.pointer (some ⟨g, 0, none⟩)) ∧ ∃ w1, Below w.heap.size w w1 ∧ w' = w1.setCell ⟨g, 0, none⟩ (.int .u32 (addT t (lay8 x))) := by
  go_enter Try.func11, Try.ntmps11
  go_wp2_with fail
  refine (crc_bytes.calls 9 x 8 (lay8 x) _ (bytes8 x)).mono ?_
  rintro e w1 ⟨v, rfl, hv, hb⟩
  obtain ⟨A, c, rfl, hcap, hC⟩ := Kd.R_reads hv
  have hc1 : w1.cell? ⟨g, 0, none⟩ = some (.int .u32 t) := by rw [hb.cell (p := ⟨g, 0, none⟩) hg]; exact hc
  have hf1 : w1.frozen? ⟨g, 0, none⟩ = false := by rw [hb.frozen (p := ⟨g, 0, none⟩) hg]; exact hf
  have HB := Lib.hid hb
  clear hb hv hc hf
  go_wp2_with fail
  refine (add_calls g t A c (lay8 x) w1 hc1 hf1 hC).mono ?_
  rintro e w' ⟨rfl, rfl⟩
  go_wp2
  go_ret
  exact ⟨rfl, w1, HB.out, rfl⟩
theorem word_nil (x : Int) (w : World) : Calls Try.prog 11 #[.pointer none, .int .u64 x] w fun e w' => e = .returned (.pointer none) ∧ Below w.heap.size w w' := by
  go_enter Try.func11, Try.ntmps11
  go_wp2_with fail
  refine (crc_bytes.calls 9 x 8 (lay8 x) _ (bytes8 x)).mono ?_
  rintro e w1 ⟨v, rfl, hv, hb⟩
  have HB := Lib.hid hb
  clear hb hv
  go_wp2_with fail
  refine (add_nil v w1).mono ?_
  rintro e w' ⟨rfl, rfl⟩
  go_wp2
  go_ret
  exact ⟨rfl, HB.out⟩

/-! ### crc_Sum_Sum: function 13 -/

theorem sum_calls (g : Nat) (t : Int) (w : World) (hc : w.cell? ⟨g, 0, none⟩ = some (.int .u32 t)) :
    Calls Try.prog 13 #[.pointer (some ⟨g, 0, none⟩)] w fun e w' => e = .returned (.int .u32 t) ∧ w' = w := by
  go_enter Try.func13, Try.ntmps13
  go_wp2
  go_ret
  exact ⟨rfl, rfl⟩
theorem sum_nil (w : World) : Calls Try.prog 13 #[.pointer none] w fun e w' => e = .returned (.int .u32 0) ∧ w' = w := by
  go_enter Try.func13, Try.ntmps13
  go_wp2
  go_ret
  exact ⟨rfl, rfl⟩

/-! ### crc_Of: function 14 -/

def crc_Of.f (l0 : List Int) : Option Int := some (addT 0 l0)
theorem crc_Of.calls (A0 : Option Addr) (c0 : Nat) (l0 : List Int) (r : Int) (w : World) (hr0 : Kd.C (Kd.int .u8) w A0 l0.length l0) (hc0 : l0.length ≤ c0) (h : crc_Of.f l0 = some r) :
    Calls Try.prog 14 #[.slice A0 l0.length c0] w fun e w' => e = .returned (.int .u32 r) ∧ Below w.heap.size w w' := by
  obtain rfl := Option.some.inj h
  clear h
  have HR := Lib.hid (Kd.C_alloc hr0 (.cells #[.int .u32 0] 27))
  clear hr0
  go_enter Try.func14, Try.ntmps14
  go_wp2_with fail
  refine (add_calls w.heap.size 0 A0 c0 l0 (w.alloc (.cells #[.int .u32 0] 27)) (by simp) (by simp) HR.out).mono ?_
  rintro e w' ⟨rfl, rfl⟩
  go_wp2_with fail
  refine (sum_calls w.heap.size (addT 0 l0) _ (by simp)).mono ?_
  rintro e w' ⟨rfl, rfl⟩
  go_wp2
  go_ret
  exact ⟨rfl, below_alloc (Below.refl _ _) _⟩


/-! ### dolmenlaw2_awake: function 8 -/

theorem check_sum : addT 0 [49, 50, 51, 52, 53, 54, 55, 56, 57] = 3421780262 := by decide +kernel
theorem nil_same (w : World) : (binOp .eql 30 (.pointer none) (.pointer none)).run Try.prog w = .ok (.bool true) w := by kernel_rfl
theorem lit9 (w : World) : Kd.C (Kd.int .u8) ((w.alloc (.cells #[.int .u32 0] 27)).alloc (.cells #[.int .u8 49, .int .u8 50, .int .u8 51, .int .u8 52, .int .u8 53, .int .u8 54, .int .u8 55, .int .u8 56, .int .u8 57] 5 (9, 10))) (some ⟨w.heap.size + 1, 0, none⟩) 9 [49, 50, 51, 52, 53, 54, 55, 56, 57] := by
  refine Kd.C_of_reads (d := (0 : Int)) ⟨rfl, by decide, fun _ => ⟨_, rfl, fun j hj => ?_⟩⟩
  have : j = 0 ∨ j = 1 ∨ j = 2 ∨ j = 3 ∨ j = 4 ∨ j = 5 ∨ j = 6 ∨ j = 7 ∨ j = 8 := by omega
  have hj2 : ((⟨w.heap.size + 1, 0, none⟩ : Addr).add j) = ⟨w.heap.size + 1, j, none⟩ := by unfold Addr.add; split <;> simp_all
  rw [hj2]
  refine (Go.Joins.cell_alloc_mark_at (w.alloc (.cells #[.int .u32 0] 27)) _ _ _ (w.heap.size + 1) j (by simp)).trans ?_
  rcases this with rfl | rfl | rfl | rfl | rfl | rfl | rfl | rfl | rfl <;> rfl
def dolmenlaw2_awake.f : Option Bool := some true
theorem dolmenlaw2_awake.calls (r : Bool) (w : World) (h : dolmenlaw2_awake.f = some r) :
    Calls Try.prog 8 #[] w fun e w' => e = .returned (.bool r) ∧ Below w.heap.size w w' := by
  obtain rfl := Option.some.inj h
  clear h
  have kc := Go.Joins.run_convert_bytes_const_at (P := Try.prog) (w.alloc (.cells #[.int .u32 0] 27)) 28 5 #[.int .u8 49, .int .u8 50, .int .u8 51, .int .u8 52, .int .u8 53, .int .u8 54, .int .u8 55, .int .u8 56, .int .u8 57] 9 9 (w.heap.size + 1) (by simp) Try.underlying28 Try.underlying5
  have kn := nil_same
  go_enter Try.func8, Try.ntmps8
  go_wp2_with fail
  refine (crc_Of.calls _ 9 [49, 50, 51, 52, 53, 54, 55, 56, 57] 3421780262 _ (lit9 w) (by simp) (by rw [crc_Of.f, check_sum])).mono ?_
  rintro e w1 ⟨rfl, hb⟩
  have hcl : w1.cell? ⟨w.heap.size, 0, none⟩ = some (.int .u32 0) := by rw [hb.cell (p := ⟨w.heap.size, 0, none⟩) (by simp; omega)]; simp
  have HB := Lib.hid (Below.trans (below_alloc (below_alloc (Below.refl _ _) (.cells #[.int .u32 0] 27)) (.cells #[.int .u8 49, .int .u8 50, .int .u8 51, .int .u8 52, .int .u8 53, .int .u8 54, .int .u8 55, .int .u8 56, .int .u8 57] 5 (9, 10))) (hb.mono (by simp; omega)))
  clear hb
  go_wp2_with fail
  refine (sum_calls w.heap.size 0 _ hcl).mono ?_
  rintro e w' ⟨rfl, rfl⟩
  go_wp2_with fail
  refine (sum_nil _).mono ?_
  rintro e w' ⟨rfl, rfl⟩
  go_wp2_with fail
  refine (add_nil _ _).mono ?_
  rintro e w' ⟨rfl, rfl⟩
  go_wp2_with fail
  refine (word_nil _ _).mono ?_
  rintro e w' ⟨rfl, hb2⟩
  have HB2 := Lib.hid hb2
  clear hb2
  go_wp2
  go_ret
  exact ⟨rfl, Below.trans (below_alloc HB.out _) (HB2.out.mono (by have := HB.out.size; simp; omega))⟩

/-! ### dolmenalike_Sum: function 9 -/
def dolmenalike_Sum.l0 : Nat → Int → List Int → Int → Option (Int)
  | 0, _, _, _ => none
  | k + 1, x0, x1, x5 => if x5 < (x1.length : Int) then (if x0 > 1099511627776 then (some 1099511627776) else (if 0 ≤ x5 then (if (rd x1 x5) > (wrap64 (1099511627776 - x0)) then (some 1099511627776) else (dolmenalike_Sum.l0 k (wrap64 (x0 + (rd x1 x5))) x1 (wrap64 (x5 + 1)))) else (none))) else (some x0)
def dolmenalike_Sum.f (k : Nat) (a0 : Int) (l1 : List Int) : Option (Int) := dolmenalike_Sum.l0 k a0 l1 0
theorem dolmenalike_Sum.mono_l : ∀ k, (∀ y0 y1 y2, LeO (dolmenalike_Sum.l0 k y0 y1 y2) (dolmenalike_Sum.l0 (k + 1) y0 y1 y2))
  | 0 => fun _ _ _ r h => by simp [dolmenalike_Sum.l0] at h
  | k + 1 => by
    have ih0 := dolmenalike_Sum.mono_l k
    · intro y0 y1 y2
      unfold dolmenalike_Sum.l0
      repeat' first
      | (with_reducible exact ih0 _ _ _)
      | (with_reducible exact LeO.refl _)
      | (with_reducible exact LeO.none _)
      | (with_reducible refine LeO.ite ?_ ?_)
      | (with_reducible refine LeO.bind ?_ (fun _ => ?_))
      | exact ih0 _ _ _
      | exact LeO.none _
      | refine LeO.ite ?_ ?_
      | refine LeO.bind ?_ (fun _ => ?_)
theorem dolmenalike_Sum.mono : ∀ a0 a1 k, LeO (dolmenalike_Sum.f k a0 a1) (dolmenalike_Sum.f (k + 1) a0 a1) := by
  intro a0 a1 k
  have ih0 := dolmenalike_Sum.mono_l k
  unfold dolmenalike_Sum.f
  repeat' first
      | (with_reducible exact ih0 _ _ _)
      | (with_reducible exact LeO.refl _)
      | (with_reducible exact LeO.none _)
      | (with_reducible refine LeO.ite ?_ ?_)
      | (with_reducible refine LeO.bind ?_ (fun _ => ?_))
      | exact ih0 _ _ _
      | exact LeO.none _
      | refine LeO.ite ?_ ?_
      | refine LeO.bind ?_ (fun _ => ?_)
set_option maxHeartbeats 8000000 in
set_option maxRecDepth 100000 in
theorem dolmenalike_Sum.calls (k : Nat) (a0 : Int) (A1 : Option Addr) (c1 : Nat) (l1 : List Int) (r : Int) (w : World) (hr1 : Kd.C (Kd.int .i64) w A1 l1.length l1) (hc1 : l1.length ≤ c1) (h : dolmenalike_Sum.f k a0 l1 = some r) :
    Calls Try.prog 9 #[.int .i64 a0, .slice A1 l1.length c1] w fun e w' => e = .returned (.int .i64 r) ∧ Drawn0 w w' := by
  have HR1 := Aside0.mk hr1
  have HC1 := Aside0.mk hc1
  clear hr1 hc1
  have H : (dolmenalike_Sum.l0 k a0 l1 0) = some r := h
  clear h
  have H' := Aside0.mk H
  clear H
  go_enter Try.func9, Try.ntmps9
  go_wp2
  go_loopg [0, 5] k (fun kq v0 v5 w' => ∃ (x0_1 : Int) (x5_1 : Int), v0 = .int .i64 x0_1 ∧ v5 = .int .i64 x5_1 ∧ Aside0 (dolmenalike_Sum.l0 kq x0_1 l1 x5_1 = some r) ∧ Aside0 (kq ≤ k) ∧ Drawn0 w w')
  case atStart => exact ⟨(a0), (0), (by first | rfl | (simp; done) | (simp [*]; done)), (by first | rfl | (simp; done) | (simp [*]; done)), H', ⟨Nat.le_refl _⟩, by repeat (first | exact Drawn0.refl _ | apply Drawn0.step)⟩
  case round =>
    clear H'
    try clear c1
    try clear p2
    obtain ⟨x0_1, x5_1, rfl, rfl, HA, HK1, ⟨m1, rfl⟩⟩ := hrel
    cases gk with
    | zero => exact absurd HA.out (by simp [dolmenalike_Sum.l0])
    | succ k1 =>
      have H := HA.out
      clear HA
      simp only [dolmenalike_Sum.l0] at H
      by_cases c3 : x5_1 < (l1.length : Int)
      · rw [if_pos c3] at H
        have c3b0 : decide (x5_1 < (l1.length : Int)) = true := decide_eq_true c3
        clear c3
        by_cases c4 : x0_1 > 1099511627776
        · rw [if_pos c4] at H
          have c4b0 : decide (1099511627776 < x0_1) = true := decide_eq_true c4
          clear c4
          obtain rfl := Option.some.inj H
          go_wp2
          go_ret
          exact ⟨by first | rfl | (simp; done) | (simp [*]; done), by repeat (first | exact Drawn0.refl _ | apply Drawn0.step)⟩
        · rw [if_neg c4] at H
          have c4b0 : decide (1099511627776 < x0_1) = false := decide_eq_false c4
          clear c4
          by_cases c5 : 0 ≤ x5_1
          · rw [if_pos c5] at H
            have c5b0 : decide (0 ≤ x5_1) = true := decide_eq_true c5
            clear c5
            by_cases c6 : (rd l1 x5_1) > (wrap64 (1099511627776 - x0_1))
            · rw [if_pos c6] at H
              have c6b0 : decide ((wrap64 (1099511627776 - x0_1)) < (rd l1 x5_1)) = true := decide_eq_true c6
              clear c6
              obtain rfl := Option.some.inj H
              have p104 : 0 ≤ (x5_1 : Int) := of_decide_eq_true (by first | (with_reducible assumption) | assumption)
              have q104 : x5_1 < (l1.length : Int) := of_decide_eq_true (by first | (with_reducible assumption) | assumption)
              obtain ⟨ad104, e104, hx104_0⟩ := Kd.at_int HR1.out x5_1 p104 q104
              cases e104
              replace p104 := eq_true p104
              replace q104 := eq_true q104
              go_wp2
              go_ret
              exact ⟨by first | rfl | (simp; done) | (simp [*]; done), by repeat (first | exact Drawn0.refl _ | apply Drawn0.step)⟩
            · rw [if_neg c6] at H
              have c6b0 : decide ((wrap64 (1099511627776 - x0_1)) < (rd l1 x5_1)) = false := decide_eq_false c6
              clear c6
              have H' := Aside0.mk H
              clear H
              have p104 : 0 ≤ (x5_1 : Int) := of_decide_eq_true (by first | (with_reducible assumption) | assumption)
              have q104 : x5_1 < (l1.length : Int) := of_decide_eq_true (by first | (with_reducible assumption) | assumption)
              obtain ⟨ad104, e104, hx104_0⟩ := Kd.at_int HR1.out x5_1 p104 q104
              cases e104
              replace p104 := eq_true p104
              replace q104 := eq_true q104
              have p105 : 0 ≤ (x5_1 : Int) := of_decide_eq_true (by first | (with_reducible assumption) | assumption)
              have q105 : x5_1 < (l1.length : Int) := of_decide_eq_true (by first | (with_reducible assumption) | assumption)
              obtain ⟨ad105, e105, hx105_0⟩ := Kd.at_int HR1.out x5_1 p105 q105
              obtain rfl : ad104 = ad105 := (by injection e105)
              replace p105 := eq_true p105
              replace q105 := eq_true q105
              go_wp2
              go_roundg k1
              case measure => have := HK1.out; omega
              case rel => exact ⟨(wrap64 (x0_1 + (rd l1 x5_1))), (wrap64 (x5_1 + 1)), (by first | rfl | (simp; done) | (simp [*]; done)), (by first | rfl | (simp; done) | (simp [*]; done)), H', ⟨by have := HK1.out; omega⟩, by repeat (first | exact Drawn0.refl _ | apply Drawn0.step)⟩
          · rw [if_neg c5] at H
            exact absurd H (by simp)
      · rw [if_neg c3] at H
        have c3b0 : decide (x5_1 < (l1.length : Int)) = false := decide_eq_false c3
        clear c3
        obtain rfl := Option.some.inj H
        go_wp2
        go_ret
        exact ⟨by first | rfl | (simp; done) | (simp [*]; done), by repeat (first | exact Drawn0.refl _ | apply Drawn0.step)⟩

/-! ### dolmenref1_Lay: function 12 -/
def dolmenref1_Lay.l0 : Nat → Int → List Int → Int → Option (List Int)
  | 0, _, _, _ => none
  | k + 1, x0, x3, x4 => if x4 < 8 then (if 0 ≤ (wrap64 (8 * x4)) then (if x3.length < 140737488355328 then (dolmenref1_Lay.l0 k x0 (x3 ++ [(shr .u64 x0 (wrap64 (8 * x4))) % 256]) (wrap64 (x4 + 1))) else (none)) else (none)) else (some x3)
def dolmenref1_Lay.f (k : Nat) (a0 : Int) : Option (List Int) := dolmenref1_Lay.l0 k a0 ([] : List Int) 0
theorem dolmenref1_Lay.mono_l : ∀ k, (∀ y0 y1 y2, LeO (dolmenref1_Lay.l0 k y0 y1 y2) (dolmenref1_Lay.l0 (k + 1) y0 y1 y2))
  | 0 => fun _ _ _ r h => by simp [dolmenref1_Lay.l0] at h
  | k + 1 => by
    have ih0 := dolmenref1_Lay.mono_l k
    · intro y0 y1 y2
      unfold dolmenref1_Lay.l0
      repeat' first
      | (with_reducible exact ih0 _ _ _)
      | (with_reducible exact LeO.refl _)
      | (with_reducible exact LeO.none _)
      | (with_reducible refine LeO.ite ?_ ?_)
      | (with_reducible refine LeO.bind ?_ (fun _ => ?_))
      | exact ih0 _ _ _
      | exact LeO.none _
      | refine LeO.ite ?_ ?_
      | refine LeO.bind ?_ (fun _ => ?_)
theorem dolmenref1_Lay.mono : ∀ a0 k, LeO (dolmenref1_Lay.f k a0) (dolmenref1_Lay.f (k + 1) a0) := by
  intro a0 k
  have ih0 := dolmenref1_Lay.mono_l k
  unfold dolmenref1_Lay.f
  repeat' first
      | (with_reducible exact ih0 _ _ _)
      | (with_reducible exact LeO.refl _)
      | (with_reducible exact LeO.none _)
      | (with_reducible refine LeO.ite ?_ ?_)
      | (with_reducible refine LeO.bind ?_ (fun _ => ?_))
      | exact ih0 _ _ _
      | exact LeO.none _
      | refine LeO.ite ?_ ?_
      | refine LeO.bind ?_ (fun _ => ?_)
set_option maxHeartbeats 8000000 in
set_option maxRecDepth 100000 in
theorem dolmenref1_Lay.calls (k : Nat) (a0 : Int) (r : List Int) (w : World) (h : dolmenref1_Lay.f k a0 = some r) :
    Calls Try.prog 12 #[.int .u64 a0] w fun e w' => ∃ v0_ : Value, e = .returned (v0_) ∧ Kd.R (Kd.int .u8) 5 w' w.heap.size (fun _ => True) v0_ r ∧ Below w.heap.size w w' := by
  have HB := Aside0.mk (Below.refl w.heap.size w)
  have H : (dolmenref1_Lay.l0 k a0 ([] : List Int) 0) = some r := h
  clear h
  have H' := Aside0.mk H
  clear H
  go_enter Try.func12, Try.ntmps12
  go_wp2
  go_loopg [3, 4] k (fun kq v3 v4 w' => ∃ (x3_1 : List Int) (x4_1 : Int), v4 = .int .i64 x4_1 ∧ Aside0 (dolmenref1_Lay.l0 kq a0 x3_1 x4_1 = some r) ∧ Aside0 (kq ≤ k) ∧ Aside0 (Kd.R (Kd.int .u8) 5 w' w.heap.size (fun _ => True) v3 x3_1) ∧ Aside0 (Below w.heap.size w w'))
  case atStart => exact ⟨(([] : List Int)), (0), (by first | rfl | (simp; done) | (simp [*]; done)), H', ⟨Nat.le_refl _⟩, ⟨by first | exact Kd.R_nil _ _ _ _ _ | exact Kd.N_nil _ _ _ _ _ | exact Kd.V_nil _ _ _ _ _ | exact Kd.Q_nil _ _ _ _ _ | exact Kd.S_nil _ _ _ _ _⟩, ⟨by repeat (first | (with_reducible first | exact HB.out | apply below_alloc | apply pw_below_drewN | apply below_drew1) | exact HB.out)⟩⟩
  case round =>
    clear H'
    try clear c1
    obtain ⟨x3_1, x4_1, rfl, HA, HK1, HO_3, HB⟩ := hrel
    cases gk with
    | zero => exact absurd HA.out (by simp [dolmenref1_Lay.l0])
    | succ k1 =>
      have H := HA.out
      clear HA
      simp only [dolmenref1_Lay.l0] at H
      by_cases c2 : x4_1 < 8
      · rw [if_pos c2] at H
        have c2b0 : decide (x4_1 < 8) = true := decide_eq_true c2
        clear c2
        obtain ⟨ji3, hji3⟩ : ∃ j_ : Int, (wrap64 (8 * x4_1)) = j_ := ⟨_, rfl⟩
        replace H : (if 0 ≤ (ji3) then (if x3_1.length < 140737488355328 then (dolmenref1_Lay.l0 k1 a0 (x3_1 ++ [(shr .u64 a0 (ji3)) % 256]) (wrap64 (x4_1 + 1))) else (none)) else (none)) = some r := by first | (rw [hji3] at H; exact H) | (simp only [hji3] at H ⊢; exact H)
        have hji3w : (IntKind.i64.wrap (8 * x4_1)) = ji3 := (i64_w _).trans hji3
        by_cases c4 : 0 ≤ (ji3)
        · rw [if_pos c4] at H
          have c4b0 := eq_true c4
          have c4b1 : decide (0 ≤ (ji3)) = true := decide_eq_true c4
          clear c4
          obtain ⟨ji5, hji5⟩ : ∃ j_ : Int, (shr .u64 a0 (ji3)) = j_ := ⟨_, rfl⟩
          replace H : (if x3_1.length < 140737488355328 then (dolmenref1_Lay.l0 k1 a0 (x3_1 ++ [(ji5) % 256]) (wrap64 (x4_1 + 1))) else (none)) = some r := by first | (rw [hji5] at H; exact H) | (simp only [hji5] at H ⊢; exact H)
          have hji5_ : (a0 / 2 ^ min (ji3).toNat 64) = ji5 := hji5
          have hji5z : (ji3) ≤ 64 → (a0 / 2 ^ (ji3).toNat) = ji5 := shr_small hji5
          by_cases c6 : x3_1.length < 140737488355328
          · rw [if_pos c6] at H
            have LMc6 := Aside0.mk c6
            clear c6
            obtain ⟨y106, hy106⟩ : ∃ y_ : List Int, y_ = (x3_1 ++ [(ji5) % 256]) := ⟨_, rfl⟩
            replace H : (dolmenref1_Lay.l0 k1 a0 y106 (wrap64 (x4_1 + 1))) = some r := by first | (rw [hy106]; with_reducible exact H) | (have H2_ := (Option.bind_some _ _).symm.trans H; rw [hy106]; with_reducible exact H2_) | (have H2_ := (Option.bind_some _ _).symm.trans H; with_reducible exact H2_) | with_reducible exact H | (rw [hy106]; exact H) | exact H
            have Ny106 := Aside0.mk hy106
            clear hy106
            have H' := Aside0.mk H
            clear H
            go_wp2_with (first | ((with_reducible refine gate_builtin (b := .append) (xs := #[.tmp 9, .tmp 15]) rfl ?_); at_builtin; refine Kd.R_append (Kd.int .u8) (w0 := w) w.heap.size rfl (.tmp 9) (.tmp 15) 28 5 (.int .u8 0) 1 rfl Try.underlying28 info5 rfl (by decide) (by omega) u3 x3_1 ((ji5) % 256) [.int .u8 ((ji5) % 256)] (fun _ => True) (fun _ => False) rfl rfl ?aP (fun _ hk => hk.elim) ?aF ?aO ?aB ?aS ?aL ?_; (case aP => exact rfl); (case aB => exact (by repeat (first | (with_reducible first | exact HB.out | apply below_alloc | apply pw_below_drewN | apply below_drew1) | exact HB.out))); (case aF => exact (fun _ _ => trivial)); (case aO => exact (by (with_reducible repeat (first | apply Kd.R_alloc | apply Kd.R_drewN | apply Kd.R_drew)); exact HO_3.out)); (case aS => exact (below_size (by repeat (first | (with_reducible first | exact HB.out | apply below_alloc | apply pw_below_drewN | apply below_drew1) | exact HB.out)))); (case aL => have := LMc6.out; omega); intro v107 w7 ho hb hg hat; rw [← Ny106.out] at ho; have n0_ := Aside0.mk (hb); have n1_ := Aside0.mk (ho); clear HB; clear HO_3; have HB := n0_; have HO108 := n1_; clear n0_ n1_; clear ho hb hg hat))
            go_roundg k1
            case measure => have := HK1.out; omega
            case rel => exact ⟨(y106), (wrap64 (x4_1 + 1)), (by first | rfl | (simp; done) | (simp [*]; done)), H', ⟨by have := HK1.out; omega⟩, ⟨by (with_reducible repeat (first | apply Kd.R_alloc | apply Kd.R_drewN | apply Kd.R_drew)); exact HO108.out⟩, ⟨by repeat (first | (with_reducible first | exact HB.out | apply below_alloc | apply pw_below_drewN | apply below_drew1) | exact HB.out)⟩⟩
          · rw [if_neg c6] at H
            exact absurd H (by simp)
        · rw [if_neg c4] at H
          exact absurd H (by simp)
      · rw [if_neg c2] at H
        have c2b0 : decide (x4_1 < 8) = false := decide_eq_false c2
        clear c2
        obtain rfl := Option.some.inj H
        go_wp2
        go_ret
        exact ⟨_, by first | rfl | (simp [errW_none, errW_some] <;> rfl) | (simp [*, errW_none, errW_some] <;> rfl), by (with_reducible repeat (first | apply Kd.R_alloc | apply Kd.R_drewN | apply Kd.R_drew)); exact HO_3.out, by repeat (first | (with_reducible first | exact HB.out | apply below_alloc | apply pw_below_drewN | apply below_drew1) | exact HB.out)⟩

-- NOT PRINTED: function 3 (dolmenlaw2_CrcPieces)

end Go.Proofs.Ytafefcogpdacoaa.PCrcPieces
