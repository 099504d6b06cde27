/- Regis (chapter 21): the document's registry: what Begin does. -/
import Derived.Test.YtcmgdnhllkfjcaaReg1
import Derived.Test.YtcmgdnhllkfjcaaWTab
import Derived.Deep.RegionLaw
namespace Go.Proofs.Ytcmgdnhllkfjcaa.Reg
open Go.RowKit Go.Proofs.YtcmgdnhllkfjcaaW.PrintWords Go.Proofs.YtcmgdnhllkfjcaaW.PrintLast Go.Proofs.YtcmgdnhllkfjcaaW.PrintMore Go.Proofs.Ytcmgdnhllkfjcaa.Objs Go.Proofs.Ytcmgdnhllkfjcaa.PRegisPlays
set_option linter.unusedVariables false
set_option linter.unusedSimpArgs false

/-- The document's registry at block q: its tickets, its epochs. -/
structure Rq (w : World) (B q : Nat) (vt va : Value) (ts es : List Int) (ep last : Int) : Prop where
  at_ : At w q [.int .i64 ep, .int .i64 last, vt, va] 29
  rt : Kd.R (Kd.int .i64) 3 w B (fun k => k ≠ q ∧ some k ≠ va.ownBlock) vt ts
  ra : Kd.R (Kd.int .i64) 3 w B (fun k => k ≠ q ∧ some k ≠ vt.ownBlock) va es
theorem Rq.fresh_t {w : World} {B q : Nat} {vt va : Value} {ts es : List Int} {ep last : Int} (h : Rq w B q vt va ts es ep last) : ∀ k, w.heap.size ≤ k → k ≠ q ∧ some k ≠ va.ownBlock :=
  fun k hk => ⟨fun e => by have := h.at_.lt; omega, fun e => by have := Kd.R_lt h.ra k e.symm; omega⟩
theorem Rq.fresh_a {w : World} {B q : Nat} {vt va : Value} {ts es : List Int} {ep last : Int} (h : Rq w B q vt va ts es ep last) : ∀ k, w.heap.size ≤ k → k ≠ q ∧ some k ≠ vt.ownBlock :=
  fun k hk => ⟨fun e => by have := h.at_.lt; omega, fun e => by have := Kd.R_lt h.rt k e.symm; omega⟩
theorem Rq.but {w w1 : World} {B q : Nat} {vt va : Value} {ts es : List Int} {ep last : Int} {F : Nat → Prop} (h : Rq w B q vt va ts es ep last) (hb : But F w w1) (hq : ¬ F q) (ht : ∀ k, vt.ownBlock = some k → ¬ F k) (ha : ∀ k, va.ownBlock = some k → ¬ F k) : Rq w1 B q vt va ts es ep last := by
  refine ⟨h.at_.but hb hq, ?_, ?_⟩
  · have h1 := h.rt
    refine ⟨h1.1, ?_⟩
    exact (Kd.R_step (ok := fun k => (k ≠ q ∧ some k ≠ va.ownBlock) ∧ vt.ownBlock = some k) (d := Kd.int .i64) (e := 3) (w := w) (w1 := w1) (base := B) (v := vt) ⟨fun k hk => ⟨h1.1 k hk, hk⟩, h1.2.imp_ (fun _ _ hp => hp)⟩ (fun k hk hlt => hb.block k hlt (ht k hk.2))).2.imp_ (fun _ _ hp => hp)
  · have h1 := h.ra
    refine ⟨h1.1, ?_⟩
    exact (Kd.R_step (ok := fun k => (k ≠ q ∧ some k ≠ vt.ownBlock) ∧ va.ownBlock = some k) (d := Kd.int .i64) (e := 3) (w := w) (w1 := w1) (base := B) (v := va) ⟨fun k hk => ⟨h1.1 k hk, hk⟩, h1.2.imp_ (fun _ _ hp => hp)⟩ (fun k hk hlt => hb.block k hlt (ha k hk.2))).2.imp_ (fun _ _ hp => hp)
/-- Its row of tickets put anew. -/
theorem Rq.put_t {W w1 : World} {B q : Nat} {vt va v1 : Value} {ts ts1 es : List Int} {ep last : Int} (h : Rq W B q vt va ts es ep last) (hg : W.grownBy w1 vt.ownBlock)
    (ho : Kd.R (Kd.int .i64) 3 w1 B (fun k => k ≠ q ∧ some k ≠ va.ownBlock) v1 ts1) (hat : v1.ownBlock = vt.ownBlock ∨ ∃ b, v1.ownBlock = some b ∧ W.heap.size ≤ b) :
    Rq (w1.setCell ⟨q, 2, none⟩ v1) B q v1 va ts1 es ep last ∧ But (fun k => k = q ∨ some k = vt.ownBlock) W (w1.setCell ⟨q, 2, none⟩ v1) :=
  ⟨⟨(At.grown h.at_ hg (Kd.R_away h.rt (fun k hk => hk.1))).set 2 _, Kd.R_far ho (p := ⟨q, 2, none⟩) (fun k hk => hk.1) _, Kd.R_far (Kd.R_after h.ra hg hat) (p := ⟨q, 2, none⟩) (fun k hk => hk.1) _⟩,
    But.trans ((But.ofGrown hg).mono (fun k hk => .inr hk)) ((But.ofSet w1 q 2 v1).mono (fun k hk => .inl hk)) (fun k hk => .inl hk)⟩
/-- Its row of epochs put anew. -/
theorem Rq.put_a {W w1 : World} {B q : Nat} {vt va v1 : Value} {ts es es1 : List Int} {ep last : Int} (h : Rq W B q vt va ts es ep last) (hg : W.grownBy w1 va.ownBlock)
    (ho : Kd.R (Kd.int .i64) 3 w1 B (fun k => k ≠ q ∧ some k ≠ vt.ownBlock) v1 es1) (hat : v1.ownBlock = va.ownBlock ∨ ∃ b, v1.ownBlock = some b ∧ W.heap.size ≤ b) :
    Rq (w1.setCell ⟨q, 3, none⟩ v1) B q vt v1 ts es1 ep last ∧ But (fun k => k = q ∨ some k = va.ownBlock) W (w1.setCell ⟨q, 3, none⟩ v1) :=
  ⟨⟨(At.grown h.at_ hg (Kd.R_away h.ra (fun k hk => hk.1))).set 3 _, Kd.R_far (Kd.R_after h.rt hg hat) (p := ⟨q, 3, none⟩) (fun k hk => hk.1) _, Kd.R_far ho (p := ⟨q, 3, none⟩) (fun k hk => hk.1) _⟩,
    But.trans ((But.ofGrown hg).mono (fun k hk => .inr hk)) ((But.ofSet w1 q 3 v1).mono (fun k hk => .inl hk)) (fun k hk => .inl hk)⟩
theorem rbegin_full (B q : Nat) (vt va : Value) (l : List S55) (ep last : Int) (w : World) (h : Rq w B q vt va (l.map S55.f0) (l.map S55.f1) ep last) (hl : 64 ≤ l.length) :
    Calls Try.prog 21 #[.pointer (some ⟨q, 0, none⟩)] w fun e w' => e = .returned (.tuple #[.int .i64 0, .int .i64 0, .int .i64 16]) ∧ w' = w := by
  have c2 := h.at_.cell (j := 2) rfl
  obtain ⟨A, c, rfl, hc, hC⟩ := Kd.R_reads h.rt
  rw [List.length_map] at *
  have hn : l.length ≤ 9223372036854775807 := by have := hC.2.1; exact this
  clear h hC
  go_enter Try.func21, Try.ntmps21
  go_wp2
  go_ret3
  exact ⟨rfl, rfl⟩
def rb4.T4 : Bool × List (List Nat × List Nat) := (true, [([], []), ([], []), ([1], [1]), ([2], [2]), ([3], [3]), ([], []), ([5], [5]), ([6], [6]), ([7], [7]), ([8], [8]), ([4, 9], [4, 9]), ([0, 0, 1, 2, 3, 4, 5, 6, 7, 8, 9, 10], [0]), ([11, 0, 1, 2, 3, 4, 5, 6, 7, 8, 9, 10], [11]), ([12, 10, 10, 0, 1, 2, 3, 4, 5, 6, 7, 8, 9, 10], [10, 12])])
def rb4.B4 : List Nat := [0, 0, 2, 6, 14, 0, 32, 96, 224, 480, 1022, 2047, 4095, 8191]
theorem rb4.tab4 : rtab .any (opsOf Try.f21 4) = rb4.T4 := by kernel_rfl
theorem rb4.bits4 : waitsOk rb4.T4.2 rb4.B4 = true := by kernel_rfl
def rb5.T5 : Bool × List (List Nat × List Nat) := (true, [([], []), ([], []), ([1], [1]), ([2], [2]), ([3], [3]), ([], []), ([5], [5]), ([6], [6]), ([7], [7]), ([8], [8]), ([4, 9], [4, 9]), ([0, 0, 1, 2, 3, 4, 5, 6, 7, 8, 9, 10], [0]), ([11, 0, 1, 2, 3, 4, 5, 6, 7, 8, 9, 10], [11]), ([12, 10, 10, 0, 1, 2, 3, 4, 5, 6, 7, 8, 9, 10], [10, 12])])
def rb5.B5 : List Nat := [0, 0, 2, 6, 14, 0, 32, 96, 224, 480, 1022, 2047, 4095, 8191]
theorem rb5.tab5 : rtab .any (opsOf Try.f21 5) = rb5.T5 := by kernel_rfl
theorem rb5.bits5 : waitsOk rb5.T5.2 rb5.B5 = true := by kernel_rfl
def rb6.T6 : Bool × List (List Nat × List Nat) := (true, [([], []), ([0], [0]), ([1], [1]), ([2], [2]), ([], []), ([4], [4]), ([5], [5]), ([6], [6]), ([3, 0, 1, 2, 3], [3]), ([7, 8, 0, 1, 2, 3, 4, 5, 6, 7, 8], [7]), ([9, 0, 1, 2, 3, 4, 5, 6, 7, 8, 9], [])])
def rb6.B6 : List Nat := [0, 1, 3, 7, 0, 16, 48, 112, 15, 511, 1023]
theorem rb6.tab6 : rtab .any (opsOf Try.f21 6) = rb6.T6 := by kernel_rfl
theorem rb6.bits6 : waitsOk rb6.T6.2 rb6.B6 = true := by kernel_rfl
set_option maxRecDepth 100000 in
set_option maxHeartbeats 8000000 in
theorem rbegin_calls (B q : Nat) (vt va : Value) (l : List S55) (ep last : Int) (w : World) (h : Rq w B q vt va (l.map S55.f0) (l.map S55.f1) ep last) (hl : l.length < 64) (hB : B ≤ w.heap.size) (h0 : 0 ≤ ep ∧ ep ≤ 1000000) (h1 : 0 ≤ last ∧ last ≤ 1000000) :
    Calls Try.prog 21 #[.pointer (some ⟨q, 0, none⟩)] w fun e w' => e = .returned (.tuple #[.int .i64 (last + 1), .int .i64 ep, .int .i64 0]) ∧
      ∃ vt' va', Rq w' B q vt' va' (l.map S55.f0 ++ [last + 1]) (l.map S55.f1 ++ [ep]) ep (last + 1) ∧ But (fun k => k = q ∨ some k = vt.ownBlock ∨ some k = va.ownBlock) w w' := by
  have c1 := h.at_.cell (j := 1) rfl
  have c2 := h.at_.cell (j := 2) rfl
  have f1 := h.at_.frozen 1
  obtain ⟨A, c, hv, hc, hC⟩ := Kd.R_reads h.rt
  have hm : (l.map S55.f0).length = l.length := List.length_map _
  rw [hm] at hv hc
  have hS : Rq (w.setCell ⟨q, 1, none⟩ (.int .i64 (last + 1))) B q vt va (l.map S55.f0) (l.map S55.f1) ep (last + 1) := ⟨h.at_.set 1 _, Kd.R_far h.rt (p := ⟨q, 1, none⟩) (fun k hk => hk.1) _, Kd.R_far h.ra (p := ⟨q, 1, none⟩) (fun k hk => hk.1) _⟩
  obtain ⟨W, hW⟩ : ∃ W, w.setCell ⟨q, 1, none⟩ (.int .i64 (last + 1)) = W := ⟨_, rfl⟩
  have hbut : But (fun k => k = q) w W := by rw [← hW]; exact But.ofSet w q 1 _
  rw [hW] at hS
  have HS := Lib.hid hS
  have HBU := Lib.hid hbut
  have d1 := hS.at_.cell (j := 1) rfl
  have d2 := hS.at_.cell (j := 2) rfl
  have hBW : B ≤ W.heap.size := Nat.le_trans hB hbut.size
  have HV := Lib.hid hv
  have HM := Lib.hid hm
  clear hS hbut hC hm h
  rw [hv] at c2
  clear hv
  go_enter Try.func21, Try.ntmps21
  go_wp2_with fail
  clear hW c1 c2 f1
  refine start_ (n := 14) (S := fun w' => w'.cell? ⟨q, 2, none⟩ = some (vt) ∧ w'.cell? ⟨q, 1, none⟩ = some (.int .i64 (last + 1))) (ds := [10, 13]) #[false, false, false, false, false, false, false, false, false, false, false, false, false, false] (by kernel_rfl) rfl rfl ⟨d2, d1⟩ (fun hHeld => ?_)
  refine with_tabW rb4.tab4 rb4.bits4 (fun HT_ HW_ => ?_)
  generalize hWd : W.drew = Wd at hHeld ⊢
  have hbd : But (fun _ => False) W Wd := by rw [← hWd]; exact But.ofDrewN W 1
  have hD := HS.out.but hbd (fun h => h) (fun _ _ h => h) (fun _ _ h => h)
  have HBD := Lib.hid hbd
  have HD := Lib.hid hD
  have hpl := hD.at_.lt
  have d2 := hD.at_.cell (j := 2) rfl
  have df := hD.at_.frozen 2
  have HFT := Lib.hid hD.fresh_t
  have HNE := Lib.hid (Kd.R_away hD.rt (fun k hk => hk.1))
  have hBW : B ≤ Wd.heap.size := Nat.le_trans hBW hbd.size
  clear hWd hbd hD
  refine pure_ (i := 0) (N := some 18) (v := ?_) (a' := ?_) #[true, false, false, false, false, false, false, false, false, false, false, false, false, false] rfl rfl (any_of HT_.out (by kernel_rfl)) (fun _ _ _ h => h) (Or.inl ⟨by rfl, ?_⟩) ?_ ?_
  rotate_left
  · intro w'
    go_simp
    with_reducible rfl
  rotate_left
  · simp only [Act.put, List.setIfInBounds_toArray, List.set_cons_zero, List.set_cons_succ, i64_w, i32_w]
    rfl
  refine pure_ (i := 1) (N := some 19) (v := ?_) (a' := ?_) #[true, true, false, false, false, false, false, false, false, false, false, false, false, false] rfl rfl (any_of HT_.out (by kernel_rfl)) (fun _ _ _ h => h) (Or.inl ⟨by rfl, ?_⟩) ?_ ?_
  rotate_left
  · intro w'
    go_simp
    with_reducible rfl
  rotate_left
  · simp only [Act.put, List.setIfInBounds_toArray, List.set_cons_zero, List.set_cons_succ, i64_w, i32_w]
    rfl
  refine pure_ (i := 2) (N := some 20) (v := ?_) (a' := ?_) #[true, true, true, false, false, false, false, false, false, false, false, false, false, false] rfl rfl (any_of HT_.out (by kernel_rfl)) (fun _ _ _ h => h) (Or.inl ⟨by rfl, ?_⟩) ?_ ?_
  rotate_left
  · intro w'
    go_simp
    with_reducible rfl
  rotate_left
  · simp only [Act.put, List.setIfInBounds_toArray, List.set_cons_zero, List.set_cons_succ, i64_w, i32_w]
    rfl
  refine pure_ (i := 3) (N := some 21) (v := ?_) (a' := ?_) #[true, true, true, true, false, false, false, false, false, false, false, false, false, false] rfl rfl (any_of HT_.out (by kernel_rfl)) (fun _ _ _ h => h) (Or.inl ⟨by rfl, ?_⟩) ?_ ?_
  rotate_left
  · intro w'
    go_simp
    with_reducible rfl
  rotate_left
  · simp only [Act.put, List.setIfInBounds_toArray, List.set_cons_zero, List.set_cons_succ, i64_w, i32_w]
    rfl
  refine pure_ (i := 5) (N := some 23) (v := ?_) (a' := ?_) #[true, true, true, true, false, true, false, false, false, false, false, false, false, false] rfl rfl (any_of HT_.out (by kernel_rfl)) (fun _ _ _ h => h) (Or.inl ⟨by rfl, ?_⟩) ?_ ?_
  rotate_left
  · intro w'
    go_simp
    with_reducible rfl
  rotate_left
  · simp only [Act.put, List.setIfInBounds_toArray, List.set_cons_zero, List.set_cons_succ, i64_w, i32_w]
    rfl
  refine pure_ (i := 6) (N := some 24) (v := ?_) (a' := ?_) #[true, true, true, true, false, true, true, false, false, false, false, false, false, false] rfl rfl (any_of HT_.out (by kernel_rfl)) (fun _ _ _ h => h) (Or.inl ⟨by rfl, ?_⟩) ?_ ?_
  rotate_left
  · intro w'
    go_simp
    with_reducible rfl
  rotate_left
  · simp only [Act.put, List.setIfInBounds_toArray, List.set_cons_zero, List.set_cons_succ, i64_w, i32_w]
    rfl
  refine pure_ (i := 7) (N := some 25) (v := ?_) (a' := ?_) #[true, true, true, true, false, true, true, true, false, false, false, false, false, false] rfl rfl (any_of HT_.out (by kernel_rfl)) (fun _ _ _ h => h) (Or.inl ⟨by rfl, ?_⟩) ?_ ?_
  rotate_left
  · intro w'
    go_simp
    with_reducible rfl
  rotate_left
  · simp only [Act.put, List.setIfInBounds_toArray, List.set_cons_zero, List.set_cons_succ, i64_w, i32_w]
    rfl
  refine take_ (i := 4) (N := some 22) (v := ?_) (a' := ?_) #[true, true, true, true, true, true, true, true, false, false, false, false, false, false] rfl rfl (take_ofW HT_.out HW_.out (by kernel_rfl)) (fun _ _ _ h => h) (Or.inl ⟨by rfl, ?_⟩) hHeld ?_ ?_
  rotate_left
  · rintro w' ⟨s0, s1⟩
    go_simp
    with_reducible rfl
  rotate_left
  · simp only [Act.put, List.setIfInBounds_toArray, List.set_cons_zero, List.set_cons_succ, i64_w, i32_w]
    rfl
  refine take_ (i := 8) (N := some 26) (v := ?_) (a' := ?_) #[true, true, true, true, true, true, true, true, true, false, false, false, false, false] rfl rfl (take_ofW HT_.out HW_.out (by kernel_rfl)) (fun _ _ _ h => h) (Or.inl ⟨by rfl, ?_⟩) hHeld ?_ ?_
  rotate_left
  · rintro w' ⟨s0, s1⟩
    go_simp
    with_reducible rfl
  rotate_left
  · simp only [Act.put, List.setIfInBounds_toArray, List.set_cons_zero, List.set_cons_succ, i64_w, i32_w]
    rfl
  refine one_ (i := 9) (N := some 27) #[true, true, true, true, true, true, true, true, true, true, false, false, false, false] rfl rfl (one_of HT_.out (by kernel_rfl)) (by decide) (fun K hK => ?_)
  refine value_ (w1 := ?_) (v := ?_) (by rfl) rfl ?_ ?_
  rotate_left 2
  · go_simp
    constructor
    · rfl
    · rfl
  refine hK.out _ _ ⟨(World.cell?_alloc_lt _ _ _ (World.block_lt_of_cell? _ _ hHeld.1)).trans hHeld.1, (World.cell?_alloc_lt _ _ _ (World.block_lt_of_cell? _ _ hHeld.2)).trans hHeld.2⟩ (fun hHeld => ?_)
  clear hK K
  refine norm_ (a' := ?_) ?_ ?_
  rotate_left
  · show Act.put _ (some 27) _ = _
    simp only [Act.put, List.setIfInBounds_toArray, List.set_cons_zero, List.set_cons_succ, i64_w, i32_w]
    rfl
  refine last_ (i := 10) (N := some 28) #[true, true, true, true, true, true, true, true, true, true, true, false, false, false] rfl rfl (one_of HT_.out (by kernel_rfl)) (by decide) (fun K hK => ?_)
  refine Kd.R_append_step (Kd.int .i64) (w0 := Wd) B (by rfl) (.tmp 22) (.tmp 27) 27 3 (.int .i64 0) 8 rfl Try.underlying27 info3' rfl (by decide) (by omega) vt (l.map S55.f0) (last + 1) [.int .i64 (last + 1)] (fun k => k ≠ q ∧ some k ≠ va.ownBlock) (fun _ => False) (by simp [Act.eval]) (by simp [Act.eval]) rfl (fun _ hk => hk.elim) (fun k hk => HFT.out k hk) HD.out.rt (Below.refl _ _) (by omega) (by rw [List.length_map]; omega) ?_
  intro v1 w1 ho hb hg hat
  obtain ⟨A1, c1, hv1, hc1, hC1⟩ := Kd.R_reads ho
  clear hc1 hC1
  generalize (l.map S55.f0 ++ [last + 1]).length = n1 at hv1
  subst hv1
  have hST := HD.out.put_t hg ho hat
  have e0 := (hg.cell_far (⟨q, 2, none⟩ : Addr) hpl HNE.out).trans d2
  have ef := (hg.frozen_far (⟨q, 2, none⟩ : Addr) hpl HNE.out).trans df
  have HST := Lib.hid hST
  clear hST ho hb hg hat
  refine hK.out _ _ ?_
  clear hK K
  refine norm_ (a' := ?_) ?_ ?_
  rotate_left
  · show Act.put _ (some 28) _ = _
    simp only [Act.put, List.setIfInBounds_toArray, List.set_cons_zero, List.set_cons_succ, i64_w, i32_w]
    rfl
  refine pure_ (i := 11) (N := some 29) (v := ?_) (a' := ?_) #[true, true, true, true, true, true, true, true, true, true, true, true, false, false] rfl rfl (any_of HT_.out (by kernel_rfl)) (fun _ _ _ h => h) (Or.inl ⟨by rfl, ?_⟩) ?_ ?_
  rotate_left
  · intro w'
    go_simp
    with_reducible rfl
  rotate_left
  · simp only [Act.put, List.setIfInBounds_toArray, List.set_cons_zero, List.set_cons_succ, i64_w, i32_w]
    rfl
  refine pure_ (i := 12) (N := some 30) (v := ?_) (a' := ?_) #[true, true, true, true, true, true, true, true, true, true, true, true, true, false] rfl rfl (any_of HT_.out (by kernel_rfl)) (fun _ _ _ h => h) (Or.inl ⟨by rfl, ?_⟩) ?_ ?_
  rotate_left
  · intro w'
    go_simp
    with_reducible rfl
  rotate_left
  · simp only [Act.put, List.setIfInBounds_toArray, List.set_cons_zero, List.set_cons_succ, i64_w, i32_w]
    rfl
  refine last_ (i := 13) (N := none) #[true, true, true, true, true, true, true, true, true, true, true, true, true, true] rfl rfl (one_of HT_.out (by kernel_rfl)) (by decide) (fun K hK => ?_)
  refine skip_ (w1 := ?_) (by rfl) rfl ?_ ?_
  rotate_left
  · go_simp
    rfl
  refine hK.out _ _ ?_
  clear hK K
  refine done_ (done_of HT_.out (by kernel_rfl)) ?_
  have HBU := Lib.hid ((HBU.out.mono (G := fun k => k = q ∨ some k = vt.ownBlock ∨ some k = va.ownBlock) (fun k hk => .inl hk)).trans (HBD.out.mono (G := fun k => k = q ∨ some k = vt.ownBlock ∨ some k = va.ownBlock) (fun _ h => h.elim)) (fun k hk => .inl hk))
  clear d1 d2 df HBD HD
  obtain ⟨W2, hW2⟩ : ∃ W2, w1.setCell ⟨q, 2, none⟩ (.slice A1 n1 c1) = W2 := ⟨_, rfl⟩
  rw [hW2] at HST ⊢
  clear hW2 e0 ef
  have hT2 := HST.out.1
  have HB2 := Lib.hid HST.out.2
  have HT2 := Lib.hid hT2
  have d0 := hT2.at_.cell (j := 0) rfl
  have d3 := hT2.at_.cell (j := 3) rfl
  have hBW2 : B ≤ W2.heap.size := Nat.le_trans hBW HB2.out.size
  clear hT2 HST
  go_wp2_with fail
  refine start_ (n := 14) (S := fun w' => w'.cell? ⟨q, 3, none⟩ = some (va) ∧ w'.cell? ⟨q, 0, none⟩ = some (.int .i64 ep)) (ds := [10, 13]) #[false, false, false, false, false, false, false, false, false, false, false, false, false, false] (by kernel_rfl) rfl rfl ⟨d3, d0⟩ (fun hHeld => ?_)
  refine with_tabW rb5.tab5 rb5.bits5 (fun HT_ HW_ => ?_)
  generalize hWd : W2.drew = Wd at hHeld ⊢
  have hbd : But (fun _ => False) W2 Wd := by rw [← hWd]; exact But.ofDrewN W2 1
  have hD := HT2.out.but hbd (fun h => h) (fun _ _ h => h) (fun _ _ h => h)
  have HBD := Lib.hid hbd
  have HD := Lib.hid hD
  have hpl := hD.at_.lt
  have d3 := hD.at_.cell (j := 3) rfl
  have df := hD.at_.frozen 3
  have HFA := Lib.hid hD.fresh_a
  have HNE2 := Lib.hid (Kd.R_away hD.ra (fun k hk => hk.1))
  have hBW2 : B ≤ Wd.heap.size := Nat.le_trans hBW2 hbd.size
  clear hWd hbd hD
  refine pure_ (i := 0) (N := some 31) (v := ?_) (a' := ?_) #[true, false, false, false, false, false, false, false, false, false, false, false, false, false] rfl rfl (any_of HT_.out (by kernel_rfl)) (fun _ _ _ h => h) (Or.inl ⟨by rfl, ?_⟩) ?_ ?_
  rotate_left
  · intro w'
    go_simp
    with_reducible rfl
  rotate_left
  · simp only [Act.put, List.setIfInBounds_toArray, List.set_cons_zero, List.set_cons_succ, i64_w, i32_w]
    rfl
  refine pure_ (i := 1) (N := some 32) (v := ?_) (a' := ?_) #[true, true, false, false, false, false, false, false, false, false, false, false, false, false] rfl rfl (any_of HT_.out (by kernel_rfl)) (fun _ _ _ h => h) (Or.inl ⟨by rfl, ?_⟩) ?_ ?_
  rotate_left
  · intro w'
    go_simp
    with_reducible rfl
  rotate_left
  · simp only [Act.put, List.setIfInBounds_toArray, List.set_cons_zero, List.set_cons_succ, i64_w, i32_w]
    rfl
  refine pure_ (i := 2) (N := some 33) (v := ?_) (a' := ?_) #[true, true, true, false, false, false, false, false, false, false, false, false, false, false] rfl rfl (any_of HT_.out (by kernel_rfl)) (fun _ _ _ h => h) (Or.inl ⟨by rfl, ?_⟩) ?_ ?_
  rotate_left
  · intro w'
    go_simp
    with_reducible rfl
  rotate_left
  · simp only [Act.put, List.setIfInBounds_toArray, List.set_cons_zero, List.set_cons_succ, i64_w, i32_w]
    rfl
  refine pure_ (i := 3) (N := some 34) (v := ?_) (a' := ?_) #[true, true, true, true, false, false, false, false, false, false, false, false, false, false] rfl rfl (any_of HT_.out (by kernel_rfl)) (fun _ _ _ h => h) (Or.inl ⟨by rfl, ?_⟩) ?_ ?_
  rotate_left
  · intro w'
    go_simp
    with_reducible rfl
  rotate_left
  · simp only [Act.put, List.setIfInBounds_toArray, List.set_cons_zero, List.set_cons_succ, i64_w, i32_w]
    rfl
  refine pure_ (i := 5) (N := some 36) (v := ?_) (a' := ?_) #[true, true, true, true, false, true, false, false, false, false, false, false, false, false] rfl rfl (any_of HT_.out (by kernel_rfl)) (fun _ _ _ h => h) (Or.inl ⟨by rfl, ?_⟩) ?_ ?_
  rotate_left
  · intro w'
    go_simp
    with_reducible rfl
  rotate_left
  · simp only [Act.put, List.setIfInBounds_toArray, List.set_cons_zero, List.set_cons_succ, i64_w, i32_w]
    rfl
  refine pure_ (i := 6) (N := some 37) (v := ?_) (a' := ?_) #[true, true, true, true, false, true, true, false, false, false, false, false, false, false] rfl rfl (any_of HT_.out (by kernel_rfl)) (fun _ _ _ h => h) (Or.inl ⟨by rfl, ?_⟩) ?_ ?_
  rotate_left
  · intro w'
    go_simp
    with_reducible rfl
  rotate_left
  · simp only [Act.put, List.setIfInBounds_toArray, List.set_cons_zero, List.set_cons_succ, i64_w, i32_w]
    rfl
  refine pure_ (i := 7) (N := some 38) (v := ?_) (a' := ?_) #[true, true, true, true, false, true, true, true, false, false, false, false, false, false] rfl rfl (any_of HT_.out (by kernel_rfl)) (fun _ _ _ h => h) (Or.inl ⟨by rfl, ?_⟩) ?_ ?_
  rotate_left
  · intro w'
    go_simp
    with_reducible rfl
  rotate_left
  · simp only [Act.put, List.setIfInBounds_toArray, List.set_cons_zero, List.set_cons_succ, i64_w, i32_w]
    rfl
  refine take_ (i := 4) (N := some 35) (v := ?_) (a' := ?_) #[true, true, true, true, true, true, true, true, false, false, false, false, false, false] rfl rfl (take_ofW HT_.out HW_.out (by kernel_rfl)) (fun _ _ _ h => h) (Or.inl ⟨by rfl, ?_⟩) hHeld ?_ ?_
  rotate_left
  · rintro w' ⟨s0, s1⟩
    go_simp
    with_reducible rfl
  rotate_left
  · simp only [Act.put, List.setIfInBounds_toArray, List.set_cons_zero, List.set_cons_succ, i64_w, i32_w]
    rfl
  refine take_ (i := 8) (N := some 39) (v := ?_) (a' := ?_) #[true, true, true, true, true, true, true, true, true, false, false, false, false, false] rfl rfl (take_ofW HT_.out HW_.out (by kernel_rfl)) (fun _ _ _ h => h) (Or.inl ⟨by rfl, ?_⟩) hHeld ?_ ?_
  rotate_left
  · rintro w' ⟨s0, s1⟩
    go_simp
    with_reducible rfl
  rotate_left
  · simp only [Act.put, List.setIfInBounds_toArray, List.set_cons_zero, List.set_cons_succ, i64_w, i32_w]
    rfl
  refine one_ (i := 9) (N := some 40) #[true, true, true, true, true, true, true, true, true, true, false, false, false, false] rfl rfl (one_of HT_.out (by kernel_rfl)) (by decide) (fun K hK => ?_)
  refine value_ (w1 := ?_) (v := ?_) (by rfl) rfl ?_ ?_
  rotate_left 2
  · go_simp
    constructor
    · rfl
    · rfl
  refine hK.out _ _ ⟨(World.cell?_alloc_lt _ _ _ (World.block_lt_of_cell? _ _ hHeld.1)).trans hHeld.1, (World.cell?_alloc_lt _ _ _ (World.block_lt_of_cell? _ _ hHeld.2)).trans hHeld.2⟩ (fun hHeld => ?_)
  clear hK K
  refine norm_ (a' := ?_) ?_ ?_
  rotate_left
  · show Act.put _ (some 40) _ = _
    simp only [Act.put, List.setIfInBounds_toArray, List.set_cons_zero, List.set_cons_succ, i64_w, i32_w]
    rfl
  refine last_ (i := 10) (N := some 41) #[true, true, true, true, true, true, true, true, true, true, true, false, false, false] rfl rfl (one_of HT_.out (by kernel_rfl)) (by decide) (fun K hK => ?_)
  refine Kd.R_append_step (Kd.int .i64) (w0 := Wd) B (by rfl) (.tmp 35) (.tmp 40) 27 3 (.int .i64 0) 8 rfl Try.underlying27 info3' rfl (by decide) (by omega) va (l.map S55.f1) ep [.int .i64 ep] (fun k => k ≠ q ∧ some k ≠ (Value.slice A1 n1 c1).ownBlock) (fun _ => False) (by simp [Act.eval]) (by simp [Act.eval]) rfl (fun _ hk => hk.elim) (fun k hk => HFA.out k hk) HD.out.ra (Below.refl _ _) (by omega) (by rw [List.length_map]; omega) ?_
  intro v2 w3 ho hb hg hat
  obtain ⟨A2, c2, hv2, hc2, hC2⟩ := Kd.R_reads ho
  clear hc2 hC2
  generalize (l.map S55.f1 ++ [ep]).length = n2 at hv2
  subst hv2
  have hST := HD.out.put_a hg ho hat
  have e0 := (hg.cell_far (⟨q, 3, none⟩ : Addr) hpl HNE2.out).trans d3
  have ef := (hg.frozen_far (⟨q, 3, none⟩ : Addr) hpl HNE2.out).trans df
  have HSU := Lib.hid hST
  clear hST ho hb hg hat
  refine hK.out _ _ ?_
  clear hK K
  refine norm_ (a' := ?_) ?_ ?_
  rotate_left
  · show Act.put _ (some 41) _ = _
    simp only [Act.put, List.setIfInBounds_toArray, List.set_cons_zero, List.set_cons_succ, i64_w, i32_w]
    rfl
  refine pure_ (i := 11) (N := some 42) (v := ?_) (a' := ?_) #[true, true, true, true, true, true, true, true, true, true, true, true, false, false] rfl rfl (any_of HT_.out (by kernel_rfl)) (fun _ _ _ h => h) (Or.inl ⟨by rfl, ?_⟩) ?_ ?_
  rotate_left
  · intro w'
    go_simp
    with_reducible rfl
  rotate_left
  · simp only [Act.put, List.setIfInBounds_toArray, List.set_cons_zero, List.set_cons_succ, i64_w, i32_w]
    rfl
  refine pure_ (i := 12) (N := some 43) (v := ?_) (a' := ?_) #[true, true, true, true, true, true, true, true, true, true, true, true, true, false] rfl rfl (any_of HT_.out (by kernel_rfl)) (fun _ _ _ h => h) (Or.inl ⟨by rfl, ?_⟩) ?_ ?_
  rotate_left
  · intro w'
    go_simp
    with_reducible rfl
  rotate_left
  · simp only [Act.put, List.setIfInBounds_toArray, List.set_cons_zero, List.set_cons_succ, i64_w, i32_w]
    rfl
  refine last_ (i := 13) (N := none) #[true, true, true, true, true, true, true, true, true, true, true, true, true, true] rfl rfl (one_of HT_.out (by kernel_rfl)) (by decide) (fun K hK => ?_)
  refine skip_ (w1 := ?_) (by rfl) rfl ?_ ?_
  rotate_left
  · go_simp
    rfl
  refine hK.out _ _ ?_
  clear hK K
  refine done_ (done_of HT_.out (by kernel_rfl)) ?_
  have HB2 := Lib.hid ((HB2.out.mono (G := fun k => k = q ∨ some k = vt.ownBlock ∨ some k = va.ownBlock) (fun k hk => hk.imp id .inl)).trans (HBD.out.mono (G := fun k => k = q ∨ some k = vt.ownBlock ∨ some k = va.ownBlock) (fun _ h => h.elim)) (fun k hk => .inl hk))
  clear d0 d3 df HBD HD
  obtain ⟨W3, hW3⟩ : ∃ W3, w3.setCell ⟨q, 3, none⟩ (.slice A2 n2 c2) = W3 := ⟨_, rfl⟩
  rw [hW3] at HSU ⊢
  clear hW3 e0 ef
  have g0 := HSU.out.1.at_.cell (j := 0) rfl
  have g1 := HSU.out.1.at_.cell (j := 1) rfl
  go_wp2_with fail
  refine start_ (n := 11) (S := fun w' => w'.cell? ⟨q, 1, none⟩ = some (.int .i64 (last + 1)) ∧ w'.cell? ⟨q, 0, none⟩ = some (.int .i64 ep)) (ds := []) #[false, false, false, false, false, false, false, false, false, false, false] (by kernel_rfl) rfl rfl ⟨g1, g0⟩ (fun hHeld => ?_)
  refine with_tabW rb6.tab6 rb6.bits6 (fun HT_ HW_ => ?_)
  refine pure_ (i := 0) (N := some 44) (v := ?_) (a' := ?_) #[true, false, false, false, false, false, false, false, false, false, false] rfl rfl (any_of HT_.out (by kernel_rfl)) (fun _ _ _ h => h) (Or.inl ⟨by rfl, ?_⟩) ?_ ?_
  rotate_left
  · intro w'
    go_simp
    with_reducible rfl
  rotate_left
  · simp only [Act.put, List.setIfInBounds_toArray, List.set_cons_zero, List.set_cons_succ, i64_w, i32_w]
    rfl
  refine pure_ (i := 1) (N := some 45) (v := ?_) (a' := ?_) #[true, true, false, false, false, false, false, false, false, false, false] rfl rfl (any_of HT_.out (by kernel_rfl)) (fun _ _ _ h => h) (Or.inl ⟨by rfl, ?_⟩) ?_ ?_
  rotate_left
  · intro w'
    go_simp
    with_reducible rfl
  rotate_left
  · simp only [Act.put, List.setIfInBounds_toArray, List.set_cons_zero, List.set_cons_succ, i64_w, i32_w]
    rfl
  refine pure_ (i := 2) (N := some 46) (v := ?_) (a' := ?_) #[true, true, true, false, false, false, false, false, false, false, false] rfl rfl (any_of HT_.out (by kernel_rfl)) (fun _ _ _ h => h) (Or.inl ⟨by rfl, ?_⟩) ?_ ?_
  rotate_left
  · intro w'
    go_simp
    with_reducible rfl
  rotate_left
  · simp only [Act.put, List.setIfInBounds_toArray, List.set_cons_zero, List.set_cons_succ, i64_w, i32_w]
    rfl
  refine pure_ (i := 4) (N := some 48) (v := ?_) (a' := ?_) #[true, true, true, false, true, false, false, false, false, false, false] rfl rfl (any_of HT_.out (by kernel_rfl)) (fun _ _ _ h => h) (Or.inl ⟨by rfl, ?_⟩) ?_ ?_
  rotate_left
  · intro w'
    go_simp
    with_reducible rfl
  rotate_left
  · simp only [Act.put, List.setIfInBounds_toArray, List.set_cons_zero, List.set_cons_succ, i64_w, i32_w]
    rfl
  refine pure_ (i := 5) (N := some 49) (v := ?_) (a' := ?_) #[true, true, true, false, true, true, false, false, false, false, false] rfl rfl (any_of HT_.out (by kernel_rfl)) (fun _ _ _ h => h) (Or.inl ⟨by rfl, ?_⟩) ?_ ?_
  rotate_left
  · intro w'
    go_simp
    with_reducible rfl
  rotate_left
  · simp only [Act.put, List.setIfInBounds_toArray, List.set_cons_zero, List.set_cons_succ, i64_w, i32_w]
    rfl
  refine pure_ (i := 6) (N := some 50) (v := ?_) (a' := ?_) #[true, true, true, false, true, true, true, false, false, false, false] rfl rfl (any_of HT_.out (by kernel_rfl)) (fun _ _ _ h => h) (Or.inl ⟨by rfl, ?_⟩) ?_ ?_
  rotate_left
  · intro w'
    go_simp
    with_reducible rfl
  rotate_left
  · simp only [Act.put, List.setIfInBounds_toArray, List.set_cons_zero, List.set_cons_succ, i64_w, i32_w]
    rfl
  refine take_ (i := 3) (N := some 47) (v := ?_) (a' := ?_) #[true, true, true, true, true, true, true, false, false, false, false] rfl rfl (take_ofW HT_.out HW_.out (by kernel_rfl)) (fun _ _ _ h => h) (Or.inl ⟨by rfl, ?_⟩) hHeld ?_ ?_
  rotate_left
  · rintro w' ⟨s0, s1⟩
    go_simp
    with_reducible rfl
  rotate_left
  · simp only [Act.put, List.setIfInBounds_toArray, List.set_cons_zero, List.set_cons_succ, i64_w, i32_w]
    rfl
  refine pure_ (i := 8) (N := some 2) (v := ?_) (a' := ?_) #[true, true, true, true, true, true, true, false, true, false, false] rfl rfl (any_of HT_.out (by kernel_rfl)) (fun _ _ _ h => h) (Or.inl ⟨by rfl, ?_⟩) ?_ ?_
  rotate_left
  · intro w'
    go_simp
    with_reducible rfl
  rotate_left
  · simp only [Act.put, List.setIfInBounds_toArray, List.set_cons_zero, List.set_cons_succ, i64_w, i32_w]
    rfl
  refine take_ (i := 7) (N := some 51) (v := ?_) (a' := ?_) #[true, true, true, true, true, true, true, true, true, false, false] rfl rfl (take_ofW HT_.out HW_.out (by kernel_rfl)) (fun _ _ _ h => h) (Or.inl ⟨by rfl, ?_⟩) hHeld ?_ ?_
  rotate_left
  · rintro w' ⟨s0, s1⟩
    go_simp
    with_reducible rfl
  rotate_left
  · simp only [Act.put, List.setIfInBounds_toArray, List.set_cons_zero, List.set_cons_succ, i64_w, i32_w]
    rfl
  refine pure_ (i := 9) (N := some 3) (v := ?_) (a' := ?_) #[true, true, true, true, true, true, true, true, true, true, false] rfl rfl (any_of HT_.out (by kernel_rfl)) (fun _ _ _ h => h) (Or.inl ⟨by rfl, ?_⟩) ?_ ?_
  rotate_left
  · intro w'
    go_simp
    with_reducible rfl
  rotate_left
  · simp only [Act.put, List.setIfInBounds_toArray, List.set_cons_zero, List.set_cons_succ, i64_w, i32_w]
    rfl
  refine pure_ (i := 10) (N := some 4) (v := ?_) (a' := ?_) #[true, true, true, true, true, true, true, true, true, true, true] rfl rfl (any_of HT_.out (by kernel_rfl)) (fun _ _ _ h => h) (Or.inl ⟨by rfl, ?_⟩) ?_ ?_
  rotate_left
  · intro w'
    go_simp
    with_reducible rfl
  rotate_left
  · simp only [Act.put, List.setIfInBounds_toArray, List.set_cons_zero, List.set_cons_succ, i64_w, i32_w]
    rfl
  refine done_ (done_of HT_.out (by kernel_rfl)) ?_
  go_wp2
  go_ret3
  refine ⟨rfl, _, _, HSU.out.1.but (w1 := W3.drew) (But.ofDrewN W3 1) (fun h => h) (fun _ _ h => h) (fun _ _ h => h), ?_⟩
  refine HBU.out.trans (HB2.out.trans ((HSU.out.2.mono (G := fun k => k = q ∨ some k = vt.ownBlock ∨ some k = va.ownBlock) (fun k hk => hk.imp id .inr)).trans ((But.ofDrewN W3 1).mono (fun _ h => h.elim)) (fun k hk => .inl hk)) (fun k hk => .inl hk)) (fun k hk => .inl hk)
end Go.Proofs.Ytcmgdnhllkfjcaa.Reg
