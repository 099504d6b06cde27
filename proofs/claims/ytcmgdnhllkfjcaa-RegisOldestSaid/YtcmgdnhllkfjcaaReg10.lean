/- Regis (chapter 21): the document's registry: what End does. -/
import Derived.Test.YtcmgdnhllkfjcaaReg9
import Derived.Test.YtcmgdnhllkfjcaaReg3
namespace Go.Proofs.Ytcmgdnhllkfjcaa.Reg
open Go.RowKit Go.Proofs.YtcmgdnhllkfjcaaW.PrintWords Go.Proofs.YtcmgdnhllkfjcaaW.PrintLast Go.Proofs.YtcmgdnhllkfjcaaW.PrintMore Go.Proofs.Ytcmgdnhllkfjcaa.Objs Go.Proofs.Ytcmgdnhllkfjcaa.PRegisPlays
set_option linter.unusedVariables false
set_option linter.unusedSimpArgs false

/-- What the document's End tells. -/
def endN (l : List S55) (t : Int) : Int := match place l t with | none => 1 | some _ => 0
theorem map_erase {α β : Type} (f : α → β) (l : List α) (k : Nat) : (l.eraseIdx k).map f = (l.map f).take k ++ (l.map f).drop (k + 1) := by
  rw [List.eraseIdx_eq_take_drop_succ, List.map_append, List.map_take, List.map_drop]
def REnd (w : World) (B q : Nat) (l : List S55) (ep last t : Int) (e : Ending) (w' : World) : Prop :=
  e = .returned (.int .i64 (endN l t)) ∧ ∃ vt' va', Rq w' B q vt' va' ((ended l t).map S55.f0) ((ended l t).map S55.f1) ep last ∧ But (fun k => k = q) w w'
def re5.T5 : Bool × List (List Nat × List Nat) := (true, [([], []), ([], []), ([], []), ([2], [2]), ([3], [3]), ([4], [4]), ([], []), ([5, 6], [5, 6]), ([1, 7], [1, 7]), ([], []), ([9], [9]), ([10], [10]), ([11], [11]), ([], []), ([13], [13]), ([12, 14], [12, 14]), ([8, 15, 8], [8, 15]), ([0, 0, 1, 2, 3, 4, 5, 6, 7, 8, 9, 10, 11, 12, 13, 14, 15, 16], [0]), ([17, 0, 1, 2, 3, 4, 5, 6, 7, 8, 9, 10, 11, 12, 13, 14, 15, 16], [17]), ([18, 16, 16, 0, 1, 2, 3, 4, 5, 6, 7, 8, 9, 10, 11, 12, 13, 14, 15, 16], [16, 18])])
def re5.B5 : List Nat := [0, 0, 0, 4, 12, 28, 0, 124, 254, 0, 512, 1536, 3584, 0, 8192, 32256, 65534, 131071, 262143, 524287]
theorem re5.tab5 : rtab .any (opsOf Try.f22 5) = re5.T5 := by kernel_rfl
theorem re5.bits5 : waitsOk re5.T5.2 re5.B5 = true := by kernel_rfl
def re6.T6 : Bool × List (List Nat × List Nat) := (true, [([], []), ([], []), ([], []), ([2], [2]), ([3], [3]), ([4], [4]), ([], []), ([5, 6], [5, 6]), ([1, 7], [1, 7]), ([], []), ([9], [9]), ([10], [10]), ([11], [11]), ([], []), ([13], [13]), ([12, 14], [12, 14]), ([8, 15, 8], [8, 15]), ([0, 0, 1, 2, 3, 4, 5, 6, 7, 8, 9, 10, 11, 12, 13, 14, 15, 16], [0]), ([17, 0, 1, 2, 3, 4, 5, 6, 7, 8, 9, 10, 11, 12, 13, 14, 15, 16], [17]), ([18, 16, 16, 0, 1, 2, 3, 4, 5, 6, 7, 8, 9, 10, 11, 12, 13, 14, 15, 16], [16, 18])])
def re6.B6 : List Nat := [0, 0, 0, 4, 12, 28, 0, 124, 254, 0, 512, 1536, 3584, 0, 8192, 32256, 65534, 131071, 262143, 524287]
theorem re6.tab6 : rtab .any (opsOf Try.f22 6) = re6.T6 := by kernel_rfl
theorem re6.bits6 : waitsOk re6.T6.2 re6.B6 = true := by kernel_rfl
set_option maxRecDepth 100000 in
set_option maxHeartbeats 8000000 in
theorem rend_calls (B q : Nat) (vt va : Value) (l : List S55) (ep last t : Int) (w : World) (h : Rq w B q vt va (l.map S55.f0) (l.map S55.f1) ep last) (hl : l.length ≤ 1000) (hB : B ≤ w.heap.size) :
    Calls Try.prog 22 #[.pointer (some ⟨q, 0, none⟩), .int .i64 t] w (REnd w B q l ep last t) := by
  have d2 := h.at_.cell (j := 2) rfl
  obtain ⟨A, c, hvt, hc, hC⟩ := Kd.R_reads h.rt
  have e0 : (l.map S55.f0).length = l.length := List.length_map _
  rw [e0] at hvt hc hC
  subst hvt
  have HQ := Lib.hid h
  have HC := Lib.hid hC
  clear h hC e0
  go_enter Try.func22, Try.ntmps22
  go_wp2
  go_loop [5] (fun i => ∃ k : Nat, k ≤ l.length ∧ i = .int .i64 k ∧ Hid (∀ j : Nat, j < k → (rd_T55 l j).f0 ≠ t)) (fun i => l.length - (intOf i).toNat)
  case atStart => exact ⟨0, Nat.zero_le _, rfl, Lib.hid (fun j hj => absurd hj (Nat.not_lt_zero _))⟩
  case round =>
    obtain ⟨k, hk, rfl, HN⟩ := hrel
    by_cases hlt : k < l.length
    · obtain ⟨ad, hA, k0⟩ := Kd.at_int HC.out k (by omega) (by omega)
      rw [rd_map0 l k hlt] at k0
      have e1 : (k : Int).toNat = k := by simp
      rw [e1] at k0
      obtain ⟨x, hx⟩ : ∃ x, rd_T55 l k = x := ⟨_, rfl⟩
      rw [hx] at k0
      have HX := Lib.hid hx
      clear hx e1
      by_cases heq : x.f0 = t
      · have HP := Lib.hid (place_some hlt (by rw [HX.out]; exact heq) HN.out)
        have hb : (x.f0 == t) = true := beq_iff_eq.2 heq
        have hcut1 := run_take27 A l.length c k (by omega) hc
        obtain ⟨A', hcut2, hdp⟩ := run_drop27 A l.length c k hlt hc (by omega)
        have HDR := Lib.hid hdp
        have hCX := HC
        have HLT := Lib.hid (show ((l.map S55.f0).take k).length = k by rw [List.length_take, List.length_map]; omega)
        have HEQ := Lib.hid heq
        clear hdp heq
        subst hA
        go_wp2_with fail
        clear k0 hb
        refine start_ (n := 20) (S := fun w' => w'.cell? ⟨q, 2, none⟩ = some (.slice (some ad) l.length c)) (ds := [16, 19]) #[false, false, false, false, false, false, false, false, false, false, false, false, false, false, false, false, false, false, false, false] (by kernel_rfl) rfl rfl (d2) (fun hHeld => ?_)
        refine with_tabW re5.tab5 re5.bits5 (fun HT_ HW_ => ?_)
        generalize hWd : w.drew = Wd at hHeld ⊢
        have hbd : But (fun _ => False) w Wd := by rw [← hWd]; exact But.ofDrewN w 1
        have hD := HQ.out.but hbd (fun h => h) (fun _ _ h => h) (fun _ _ h => h)
        have hCD := Kd.C_below (by rw [← hWd]; exact hCX.out : Kd.C (Kd.int .i64) Wd _ _ _) (Below.refl _ _)
        have HTK := Lib.hid (C_take27 hCD (k := k) (by omega))
        have HDP := Lib.hid (HDR.out Wd _ hCD)
        have HBD := Lib.hid hbd
        have HD := Lib.hid hD
        have hql := hD.at_.lt
        have d2 := hHeld
        have df := hD.at_.frozen 2
        have hBd := Nat.le_trans hB hbd.size
        clear hWd hbd hD hCD
        refine pure_ (i := 0) (N := some 24) (v := ?_) (a' := ?_) #[true, false, false, false, false, false, false, false, false, false, false, false, false, false, false, false, false, false, false, false] rfl rfl (any_of HT_.out (by kernel_rfl)) (fun _ _ _ h => h) (Or.inl ⟨by rfl, ?_⟩) ?_ ?_
        rotate_left
        · intro w'
          go_simp
          with_reducible rfl
        rotate_left
        · simp only [Act.put, List.setIfInBounds_toArray, List.set_cons_zero, List.set_cons_succ, i64_w, i32_w]
          rfl
        refine pure_ (i := 2) (N := some 26) (v := ?_) (a' := ?_) #[true, false, true, false, false, false, false, false, false, false, false, false, false, false, false, false, false, false, false, false] rfl rfl (any_of HT_.out (by kernel_rfl)) (fun _ _ _ h => h) (Or.inl ⟨by rfl, ?_⟩) ?_ ?_
        rotate_left
        · intro w'
          go_simp
          with_reducible rfl
        rotate_left
        · simp only [Act.put, List.setIfInBounds_toArray, List.set_cons_zero, List.set_cons_succ, i64_w, i32_w]
          rfl
        refine pure_ (i := 3) (N := some 27) (v := ?_) (a' := ?_) #[true, false, true, true, false, false, false, false, false, false, false, false, false, false, false, false, false, false, false, false] rfl rfl (any_of HT_.out (by kernel_rfl)) (fun _ _ _ h => h) (Or.inl ⟨by rfl, ?_⟩) ?_ ?_
        rotate_left
        · intro w'
          go_simp
          with_reducible rfl
        rotate_left
        · simp only [Act.put, List.setIfInBounds_toArray, List.set_cons_zero, List.set_cons_succ, i64_w, i32_w]
          rfl
        refine pure_ (i := 4) (N := some 28) (v := ?_) (a' := ?_) #[true, false, true, true, true, false, false, false, false, false, false, false, false, false, false, false, false, false, false, false] rfl rfl (any_of HT_.out (by kernel_rfl)) (fun _ _ _ h => h) (Or.inl ⟨by rfl, ?_⟩) ?_ ?_
        rotate_left
        · intro w'
          go_simp
          with_reducible rfl
        rotate_left
        · simp only [Act.put, List.setIfInBounds_toArray, List.set_cons_zero, List.set_cons_succ, i64_w, i32_w]
          rfl
        refine pure_ (i := 6) (N := some 30) (v := ?_) (a' := ?_) #[true, false, true, true, true, false, true, false, false, false, false, false, false, false, false, false, false, false, false, false] rfl rfl (any_of HT_.out (by kernel_rfl)) (fun _ _ _ h => h) (Or.inl ⟨by rfl, ?_⟩) ?_ ?_
        rotate_left
        · intro w'
          go_simp
          with_reducible rfl
        rotate_left
        · simp only [Act.put, List.setIfInBounds_toArray, List.set_cons_zero, List.set_cons_succ, i64_w, i32_w]
          rfl
        refine pure_ (i := 9) (N := some 33) (v := ?_) (a' := ?_) #[true, false, true, true, true, false, true, false, false, true, false, false, false, false, false, false, false, false, false, false] rfl rfl (any_of HT_.out (by kernel_rfl)) (fun _ _ _ h => h) (Or.inl ⟨by rfl, ?_⟩) ?_ ?_
        rotate_left
        · intro w'
          go_simp
          with_reducible rfl
        rotate_left
        · simp only [Act.put, List.setIfInBounds_toArray, List.set_cons_zero, List.set_cons_succ, i64_w, i32_w]
          rfl
        refine pure_ (i := 10) (N := some 34) (v := ?_) (a' := ?_) #[true, false, true, true, true, false, true, false, false, true, true, false, false, false, false, false, false, false, false, false] rfl rfl (any_of HT_.out (by kernel_rfl)) (fun _ _ _ h => h) (Or.inl ⟨by rfl, ?_⟩) ?_ ?_
        rotate_left
        · intro w'
          go_simp
          with_reducible rfl
        rotate_left
        · simp only [Act.put, List.setIfInBounds_toArray, List.set_cons_zero, List.set_cons_succ, i64_w, i32_w]
          rfl
        refine pure_ (i := 11) (N := some 35) (v := ?_) (a' := ?_) #[true, false, true, true, true, false, true, false, false, true, true, true, false, false, false, false, false, false, false, false] rfl rfl (any_of HT_.out (by kernel_rfl)) (fun _ _ _ h => h) (Or.inl ⟨by rfl, ?_⟩) ?_ ?_
        rotate_left
        · intro w'
          go_simp
          with_reducible rfl
        rotate_left
        · simp only [Act.put, List.setIfInBounds_toArray, List.set_cons_zero, List.set_cons_succ, i64_w, i32_w]
          rfl
        refine pure_ (i := 13) (N := some 37) (v := ?_) (a' := ?_) #[true, false, true, true, true, false, true, false, false, true, true, true, false, true, false, false, false, false, false, false] rfl rfl (any_of HT_.out (by kernel_rfl)) (fun _ _ _ h => h) (Or.inl ⟨by rfl, ?_⟩) ?_ ?_
        rotate_left
        · intro w'
          go_simp
          with_reducible rfl
        rotate_left
        · simp only [Act.put, List.setIfInBounds_toArray, List.set_cons_zero, List.set_cons_succ, i64_w, i32_w]
          rfl
        refine pure_ (i := 14) (N := some 38) (v := ?_) (a' := ?_) #[true, false, true, true, true, false, true, false, false, true, true, true, false, true, true, false, false, false, false, false] rfl rfl (any_of HT_.out (by kernel_rfl)) (fun _ _ _ h => h) (Or.inl ⟨by rfl, ?_⟩) ?_ ?_
        rotate_left
        · intro w'
          go_simp
          with_reducible rfl
        rotate_left
        · simp only [Act.put, List.setIfInBounds_toArray, List.set_cons_zero, List.set_cons_succ, i64_w, i32_w]
          rfl
        refine take_ (i := 5) (N := some 29) (v := ?_) (a' := ?_) #[true, false, true, true, true, true, true, false, false, true, true, true, false, true, true, false, false, false, false, false] rfl rfl (take_ofW HT_.out HW_.out (by kernel_rfl)) (fun _ _ _ h => h) (Or.inl ⟨by rfl, ?_⟩) hHeld ?_ ?_
        rotate_left
        · intro w' s0
          go_simp
          with_reducible rfl
        rotate_left
        · simp only [Act.put, List.setIfInBounds_toArray, List.set_cons_zero, List.set_cons_succ, i64_w, i32_w]
          rfl
        refine pure_ (i := 7) (N := some 31) (v := ?_) (a' := ?_) #[true, false, true, true, true, true, true, true, false, true, true, true, false, true, true, false, false, false, false, false] rfl rfl (any_of HT_.out (by kernel_rfl)) (fun _ _ _ h => h) (Or.inl ⟨by rfl, ?_⟩) ?_ ?_
        rotate_left
        · intro w'
          go_simp
          with_reducible rfl
        rotate_left
        · simp only [Act.put, List.setIfInBounds_toArray, List.set_cons_zero, List.set_cons_succ, i64_w, i32_w]
          rfl
        refine take_ (i := 12) (N := some 36) (v := ?_) (a' := ?_) #[true, false, true, true, true, true, true, true, false, true, true, true, true, true, true, false, false, false, false, false] rfl rfl (take_ofW HT_.out HW_.out (by kernel_rfl)) (fun _ _ _ h => h) (Or.inl ⟨by rfl, ?_⟩) hHeld ?_ ?_
        rotate_left
        · intro w' s0
          go_simp
          with_reducible rfl
        rotate_left
        · simp only [Act.put, List.setIfInBounds_toArray, List.set_cons_zero, List.set_cons_succ, i64_w, i32_w]
          rfl
        refine pure_ (i := 15) (N := some 39) (v := ?_) (a' := ?_) #[true, false, true, true, true, true, true, true, false, true, true, true, true, true, true, true, false, false, false, false] rfl rfl (any_of HT_.out (by kernel_rfl)) (fun _ _ _ h => h) (Or.inl ⟨by rfl, ?_⟩) ?_ ?_
        rotate_left
        · intro w'
          go_simp
          with_reducible rfl
        rotate_left
        · simp only [Act.put, List.setIfInBounds_toArray, List.set_cons_zero, List.set_cons_succ, i64_w, i32_w]
          rfl
        refine one_ (i := 1) (N := some 25) #[true, true, true, true, true, true, true, true, false, true, true, true, true, true, true, true, false, false, false, false] rfl rfl (one_of HT_.out (by kernel_rfl)) (by decide) (fun K hK => ?_)
        refine value_ (w1 := ?_) (v := ?_) (by rfl) rfl ?_ ?_
        rotate_left 2
        · go_simp
          constructor
          · rfl
          · rfl
        refine hK.out _ _ ((World.cell?_alloc_lt _ _ _ (World.block_lt_of_cell? _ _ hHeld)).trans hHeld) (fun hHeld => ?_)
        clear hK K
        refine norm_ (a' := ?_) ?_ ?_
        rotate_left
        · show Act.put _ (some 25) _ = _
          simp only [Act.put, List.setIfInBounds_toArray, List.set_cons_zero, List.set_cons_succ, i64_w, i32_w]
          rfl
        refine one_ (i := 8) (N := some 32) #[true, true, true, true, true, true, true, true, true, true, true, true, true, true, true, true, false, false, false, false] rfl rfl (one_of HT_.out (by kernel_rfl)) (by decide) (fun K hK => ?_)
        refine Kd.R_append_rows_step (Kd.int .i64) (w0 := Wd) Wd.heap.size (by rfl) (.tmp 25) (.tmp 31) 27 3 (.int .i64 0) 8 rfl Try.underlying27 info3' rfl (by decide) (by omega) (.slice (some ⟨Wd.heap.size, 0, none⟩) 0 0) ([]) ((l.map S55.f0).take k) ((some ad)) (k) (c) (fun k => Wd.heap.size ≤ k) (fun _ => False) (by simp [Act.eval]) (by simp [Act.eval]) (lit0 Wd (fun k => Wd.heap.size ≤ k) (Nat.le_refl _)) (Kd.C_below HTK.out (below_alloc (Below.refl _ _) _)) (fun _ _ h => h) (fun _ h => h.elim) (fun k hk => by simp at hk; omega) (below_alloc (Below.refl _ _) _) (by simp) (by simp; omega) ?_
        intro v8 w8 ho8 hb8 hg8 hat8
        rw [List.nil_append] at ho8
        have HO8 := Lib.hid ho8
        have HB8 := Lib.hid hb8
        have hd8 := pw_cell_below hb8 d2
        clear ho8 hb8 hg8 hat8
        refine hK.out _ _ (hd8) (fun hHeld => ?_)
        clear hK K
        refine norm_ (a' := ?_) ?_ ?_
        rotate_left
        · show Act.put _ (some 32) _ = _
          simp only [Act.put, List.setIfInBounds_toArray, List.set_cons_zero, List.set_cons_succ, i64_w, i32_w]
          rfl
        refine last_ (i := 16) (N := some 40) #[true, true, true, true, true, true, true, true, true, true, true, true, true, true, true, true, true, false, false, false] rfl rfl (one_of HT_.out (by kernel_rfl)) (by decide) (fun K hK => ?_)
        refine Kd.R_append_rows_step (Kd.int .i64) (w0 := Wd) Wd.heap.size (by rfl) (.tmp 32) (.tmp 39) 27 3 (.int .i64 0) 8 rfl Try.underlying27 info3' rfl (by decide) (by omega) (v8) ((l.map S55.f0).take k) ((l.map S55.f0).drop (k + 1)) (A') (l.length - (k + 1)) (c - (k + 1)) (fun k => Wd.heap.size ≤ k) (fun _ => False) (by simp [Act.eval]) (by simp [Act.eval]) HO8.out (Kd.C_below HDP.out HB8.out) (fun _ _ h => h) (fun _ h => h.elim) (fun k hk => Nat.le_trans HB8.out.size hk) HB8.out HB8.out.size (by rw [HLT.out]; omega) ?_
        intro v1 w1 ho hb hg hat
        obtain ⟨A1, c1, hv, hc1, hC1⟩ := Kd.R_reads ho
        clear hc1 hC1
        generalize ((l.map S55.f0).take k ++ (l.map S55.f0).drop (k + 1)).length = n1 at hv
        subst hv
        have HO := Lib.hid ho
        have HB := Lib.hid hb
        have e0 := pw_cell_below hb d2
        have ef := (hb.frozen (p := ⟨q, 2, none⟩) hql).trans df
        clear ho hb hg hat
        refine hK.out _ _ ?_
        clear hK K
        refine norm_ (a' := ?_) ?_ ?_
        rotate_left
        · show Act.put _ (some 40) _ = _
          simp only [Act.put, List.setIfInBounds_toArray, List.set_cons_zero, List.set_cons_succ, i64_w, i32_w]
          rfl
        refine pure_ (i := 17) (N := some 41) (v := ?_) (a' := ?_) #[true, true, true, true, true, true, true, true, true, true, true, true, true, true, true, true, true, true, false, false] rfl rfl (any_of HT_.out (by kernel_rfl)) (fun _ _ _ h => h) (Or.inl ⟨by rfl, ?_⟩) ?_ ?_
        rotate_left
        · intro w'
          go_simp
          with_reducible rfl
        rotate_left
        · simp only [Act.put, List.setIfInBounds_toArray, List.set_cons_zero, List.set_cons_succ, i64_w, i32_w]
          rfl
        refine pure_ (i := 18) (N := some 42) (v := ?_) (a' := ?_) #[true, true, true, true, true, true, true, true, true, true, true, true, true, true, true, true, true, true, true, false] rfl rfl (any_of HT_.out (by kernel_rfl)) (fun _ _ _ h => h) (Or.inl ⟨by rfl, ?_⟩) ?_ ?_
        rotate_left
        · intro w'
          go_simp
          with_reducible rfl
        rotate_left
        · simp only [Act.put, List.setIfInBounds_toArray, List.set_cons_zero, List.set_cons_succ, i64_w, i32_w]
          rfl
        refine last_ (i := 19) (N := none) #[true, true, true, true, true, true, true, true, true, true, true, true, true, true, true, true, true, true, true, true] rfl rfl (one_of HT_.out (by kernel_rfl)) (by decide) (fun K hK => ?_)
        refine skip_ (w1 := ?_) (by rfl) rfl ?_ ?_
        rotate_left
        · go_simp
          rfl
        refine hK.out _ _ ?_
        clear hK K
        refine done_ (done_of HT_.out (by kernel_rfl)) ?_
        have hP := HD.out.fresh_put_t hBd HB.out HO.out
        have HBT := Lib.hid ((HBD.out.mono (G := fun k => k = q) (fun _ h => h.elim)).trans hP.2 (fun k hk => .inl hk))
        clear e0 ef HO HB HO8 HB8 d2 df hcut1 hcut2 HTK HDP HLT HDR hCX HBD HD hql hBd
        obtain ⟨W2, hW2⟩ : ∃ W2, w1.setCell ⟨q, 2, none⟩ (.slice A1 n1 c1) = W2 := ⟨_, rfl⟩
        rw [hW2] at hP HBT ⊢
        clear hW2
        have HP2 := Lib.hid hP
        have d2 := hP.1.at_.cell (j := 3) rfl
        have hB2 := Nat.le_trans hB HBT.out.size
        obtain ⟨Aa, ca, hva, hca, hCa⟩ := Kd.R_reads hP.1.ra
        have e0 : (l.map S55.f1).length = l.length := List.length_map _
        rw [e0] at hva hca hCa
        rw [hva] at d2
        have HVA := Lib.hid hva
        have hcut1 := run_take27 Aa l.length ca k (by omega) hca
        obtain ⟨A', hcut2, hdp⟩ := run_drop27 Aa l.length ca k hlt hca (by omega)
        have HDR := Lib.hid hdp
        have hCX := Lib.hid hCa
        have HLT := Lib.hid (show ((l.map S55.f1).take k).length = k by rw [List.length_take, List.length_map]; omega)
        clear hP hva hCa e0 hdp
        go_wp2_with fail
        refine start_ (n := 20) (S := fun w' => w'.cell? ⟨q, 3, none⟩ = some (.slice Aa l.length ca)) (ds := [16, 19]) #[false, false, false, false, false, false, false, false, false, false, false, false, false, false, false, false, false, false, false, false] (by kernel_rfl) rfl rfl (d2) (fun hHeld => ?_)
        refine with_tabW re6.tab6 re6.bits6 (fun HT_ HW_ => ?_)
        generalize hWd : W2.drew = Wd at hHeld ⊢
        have hbd : But (fun _ => False) W2 Wd := by rw [← hWd]; exact But.ofDrewN W2 1
        have hD := HP2.out.1.but hbd (fun h => h) (fun _ _ h => h) (fun _ _ h => h)
        have hCD := Kd.C_below (by rw [← hWd]; exact hCX.out : Kd.C (Kd.int .i64) Wd _ _ _) (Below.refl _ _)
        have HTK := Lib.hid (C_take27 hCD (k := k) (by omega))
        have HDP := Lib.hid (HDR.out Wd _ hCD)
        have HBD := Lib.hid hbd
        have HD := Lib.hid hD
        have hql := hD.at_.lt
        have d2 := hHeld
        have df := hD.at_.frozen 3
        have hBd := Nat.le_trans hB2 hbd.size
        clear hWd hbd hD hCD
        refine pure_ (i := 0) (N := some 43) (v := ?_) (a' := ?_) #[true, false, false, false, false, false, false, false, false, false, false, false, false, false, false, false, false, false, false, false] rfl rfl (any_of HT_.out (by kernel_rfl)) (fun _ _ _ h => h) (Or.inl ⟨by rfl, ?_⟩) ?_ ?_
        rotate_left
        · intro w'
          go_simp
          with_reducible rfl
        rotate_left
        · simp only [Act.put, List.setIfInBounds_toArray, List.set_cons_zero, List.set_cons_succ, i64_w, i32_w]
          rfl
        refine pure_ (i := 2) (N := some 45) (v := ?_) (a' := ?_) #[true, false, true, false, false, false, false, false, false, false, false, false, false, false, false, false, false, false, false, false] rfl rfl (any_of HT_.out (by kernel_rfl)) (fun _ _ _ h => h) (Or.inl ⟨by rfl, ?_⟩) ?_ ?_
        rotate_left
        · intro w'
          go_simp
          with_reducible rfl
        rotate_left
        · simp only [Act.put, List.setIfInBounds_toArray, List.set_cons_zero, List.set_cons_succ, i64_w, i32_w]
          rfl
        refine pure_ (i := 3) (N := some 46) (v := ?_) (a' := ?_) #[true, false, true, true, false, false, false, false, false, false, false, false, false, false, false, false, false, false, false, false] rfl rfl (any_of HT_.out (by kernel_rfl)) (fun _ _ _ h => h) (Or.inl ⟨by rfl, ?_⟩) ?_ ?_
        rotate_left
        · intro w'
          go_simp
          with_reducible rfl
        rotate_left
        · simp only [Act.put, List.setIfInBounds_toArray, List.set_cons_zero, List.set_cons_succ, i64_w, i32_w]
          rfl
        refine pure_ (i := 4) (N := some 47) (v := ?_) (a' := ?_) #[true, false, true, true, true, false, false, false, false, false, false, false, false, false, false, false, false, false, false, false] rfl rfl (any_of HT_.out (by kernel_rfl)) (fun _ _ _ h => h) (Or.inl ⟨by rfl, ?_⟩) ?_ ?_
        rotate_left
        · intro w'
          go_simp
          with_reducible rfl
        rotate_left
        · simp only [Act.put, List.setIfInBounds_toArray, List.set_cons_zero, List.set_cons_succ, i64_w, i32_w]
          rfl
        refine pure_ (i := 6) (N := some 49) (v := ?_) (a' := ?_) #[true, false, true, true, true, false, true, false, false, false, false, false, false, false, false, false, false, false, false, false] rfl rfl (any_of HT_.out (by kernel_rfl)) (fun _ _ _ h => h) (Or.inl ⟨by rfl, ?_⟩) ?_ ?_
        rotate_left
        · intro w'
          go_simp
          with_reducible rfl
        rotate_left
        · simp only [Act.put, List.setIfInBounds_toArray, List.set_cons_zero, List.set_cons_succ, i64_w, i32_w]
          rfl
        refine pure_ (i := 9) (N := some 52) (v := ?_) (a' := ?_) #[true, false, true, true, true, false, true, false, false, true, false, false, false, false, false, false, false, false, false, false] rfl rfl (any_of HT_.out (by kernel_rfl)) (fun _ _ _ h => h) (Or.inl ⟨by rfl, ?_⟩) ?_ ?_
        rotate_left
        · intro w'
          go_simp
          with_reducible rfl
        rotate_left
        · simp only [Act.put, List.setIfInBounds_toArray, List.set_cons_zero, List.set_cons_succ, i64_w, i32_w]
          rfl
        refine pure_ (i := 10) (N := some 53) (v := ?_) (a' := ?_) #[true, false, true, true, true, false, true, false, false, true, true, false, false, false, false, false, false, false, false, false] rfl rfl (any_of HT_.out (by kernel_rfl)) (fun _ _ _ h => h) (Or.inl ⟨by rfl, ?_⟩) ?_ ?_
        rotate_left
        · intro w'
          go_simp
          with_reducible rfl
        rotate_left
        · simp only [Act.put, List.setIfInBounds_toArray, List.set_cons_zero, List.set_cons_succ, i64_w, i32_w]
          rfl
        refine pure_ (i := 11) (N := some 54) (v := ?_) (a' := ?_) #[true, false, true, true, true, false, true, false, false, true, true, true, false, false, false, false, false, false, false, false] rfl rfl (any_of HT_.out (by kernel_rfl)) (fun _ _ _ h => h) (Or.inl ⟨by rfl, ?_⟩) ?_ ?_
        rotate_left
        · intro w'
          go_simp
          with_reducible rfl
        rotate_left
        · simp only [Act.put, List.setIfInBounds_toArray, List.set_cons_zero, List.set_cons_succ, i64_w, i32_w]
          rfl
        refine pure_ (i := 13) (N := some 56) (v := ?_) (a' := ?_) #[true, false, true, true, true, false, true, false, false, true, true, true, false, true, false, false, false, false, false, false] rfl rfl (any_of HT_.out (by kernel_rfl)) (fun _ _ _ h => h) (Or.inl ⟨by rfl, ?_⟩) ?_ ?_
        rotate_left
        · intro w'
          go_simp
          with_reducible rfl
        rotate_left
        · simp only [Act.put, List.setIfInBounds_toArray, List.set_cons_zero, List.set_cons_succ, i64_w, i32_w]
          rfl
        refine pure_ (i := 14) (N := some 57) (v := ?_) (a' := ?_) #[true, false, true, true, true, false, true, false, false, true, true, true, false, true, true, false, false, false, false, false] rfl rfl (any_of HT_.out (by kernel_rfl)) (fun _ _ _ h => h) (Or.inl ⟨by rfl, ?_⟩) ?_ ?_
        rotate_left
        · intro w'
          go_simp
          with_reducible rfl
        rotate_left
        · simp only [Act.put, List.setIfInBounds_toArray, List.set_cons_zero, List.set_cons_succ, i64_w, i32_w]
          rfl
        refine take_ (i := 5) (N := some 48) (v := ?_) (a' := ?_) #[true, false, true, true, true, true, true, false, false, true, true, true, false, true, true, false, false, false, false, false] rfl rfl (take_ofW HT_.out HW_.out (by kernel_rfl)) (fun _ _ _ h => h) (Or.inl ⟨by rfl, ?_⟩) hHeld ?_ ?_
        rotate_left
        · intro w' s0
          go_simp
          with_reducible rfl
        rotate_left
        · simp only [Act.put, List.setIfInBounds_toArray, List.set_cons_zero, List.set_cons_succ, i64_w, i32_w]
          rfl
        refine pure_ (i := 7) (N := some 50) (v := ?_) (a' := ?_) #[true, false, true, true, true, true, true, true, false, true, true, true, false, true, true, false, false, false, false, false] rfl rfl (any_of HT_.out (by kernel_rfl)) (fun _ _ _ h => h) (Or.inl ⟨by rfl, ?_⟩) ?_ ?_
        rotate_left
        · intro w'
          go_simp
          with_reducible rfl
        rotate_left
        · simp only [Act.put, List.setIfInBounds_toArray, List.set_cons_zero, List.set_cons_succ, i64_w, i32_w]
          rfl
        refine take_ (i := 12) (N := some 55) (v := ?_) (a' := ?_) #[true, false, true, true, true, true, true, true, false, true, true, true, true, true, true, false, false, false, false, false] rfl rfl (take_ofW HT_.out HW_.out (by kernel_rfl)) (fun _ _ _ h => h) (Or.inl ⟨by rfl, ?_⟩) hHeld ?_ ?_
        rotate_left
        · intro w' s0
          go_simp
          with_reducible rfl
        rotate_left
        · simp only [Act.put, List.setIfInBounds_toArray, List.set_cons_zero, List.set_cons_succ, i64_w, i32_w]
          rfl
        refine pure_ (i := 15) (N := some 58) (v := ?_) (a' := ?_) #[true, false, true, true, true, true, true, true, false, true, true, true, true, true, true, true, false, false, false, false] rfl rfl (any_of HT_.out (by kernel_rfl)) (fun _ _ _ h => h) (Or.inl ⟨by rfl, ?_⟩) ?_ ?_
        rotate_left
        · intro w'
          go_simp
          with_reducible rfl
        rotate_left
        · simp only [Act.put, List.setIfInBounds_toArray, List.set_cons_zero, List.set_cons_succ, i64_w, i32_w]
          rfl
        refine one_ (i := 1) (N := some 44) #[true, true, true, true, true, true, true, true, false, true, true, true, true, true, true, true, false, false, false, false] rfl rfl (one_of HT_.out (by kernel_rfl)) (by decide) (fun K hK => ?_)
        refine value_ (w1 := ?_) (v := ?_) (by rfl) rfl ?_ ?_
        rotate_left 2
        · go_simp
          constructor
          · rfl
          · rfl
        refine hK.out _ _ ((World.cell?_alloc_lt _ _ _ (World.block_lt_of_cell? _ _ hHeld)).trans hHeld) (fun hHeld => ?_)
        clear hK K
        refine norm_ (a' := ?_) ?_ ?_
        rotate_left
        · show Act.put _ (some 44) _ = _
          simp only [Act.put, List.setIfInBounds_toArray, List.set_cons_zero, List.set_cons_succ, i64_w, i32_w]
          rfl
        refine one_ (i := 8) (N := some 51) #[true, true, true, true, true, true, true, true, true, true, true, true, true, true, true, true, false, false, false, false] rfl rfl (one_of HT_.out (by kernel_rfl)) (by decide) (fun K hK => ?_)
        refine Kd.R_append_rows_step (Kd.int .i64) (w0 := Wd) Wd.heap.size (by rfl) (.tmp 44) (.tmp 50) 27 3 (.int .i64 0) 8 rfl Try.underlying27 info3' rfl (by decide) (by omega) (.slice (some ⟨Wd.heap.size, 0, none⟩) 0 0) ([]) ((l.map S55.f1).take k) (Aa) (k) (ca) (fun k => Wd.heap.size ≤ k) (fun _ => False) (by simp [Act.eval]) (by simp [Act.eval]) (lit0 Wd (fun k => Wd.heap.size ≤ k) (Nat.le_refl _)) (Kd.C_below HTK.out (below_alloc (Below.refl _ _) _)) (fun _ _ h => h) (fun _ h => h.elim) (fun k hk => by simp at hk; omega) (below_alloc (Below.refl _ _) _) (by simp) (by simp; omega) ?_
        intro v8 w8 ho8 hb8 hg8 hat8
        rw [List.nil_append] at ho8
        have HO8 := Lib.hid ho8
        have HB8 := Lib.hid hb8
        have hd8 := pw_cell_below hb8 d2
        clear ho8 hb8 hg8 hat8
        refine hK.out _ _ (hd8) (fun hHeld => ?_)
        clear hK K
        refine norm_ (a' := ?_) ?_ ?_
        rotate_left
        · show Act.put _ (some 51) _ = _
          simp only [Act.put, List.setIfInBounds_toArray, List.set_cons_zero, List.set_cons_succ, i64_w, i32_w]
          rfl
        refine last_ (i := 16) (N := some 59) #[true, true, true, true, true, true, true, true, true, true, true, true, true, true, true, true, true, false, false, false] rfl rfl (one_of HT_.out (by kernel_rfl)) (by decide) (fun K hK => ?_)
        refine Kd.R_append_rows_step (Kd.int .i64) (w0 := Wd) Wd.heap.size (by rfl) (.tmp 51) (.tmp 58) 27 3 (.int .i64 0) 8 rfl Try.underlying27 info3' rfl (by decide) (by omega) (v8) ((l.map S55.f1).take k) ((l.map S55.f1).drop (k + 1)) (A') (l.length - (k + 1)) (ca - (k + 1)) (fun k => Wd.heap.size ≤ k) (fun _ => False) (by simp [Act.eval]) (by simp [Act.eval]) HO8.out (Kd.C_below HDP.out HB8.out) (fun _ _ h => h) (fun _ h => h.elim) (fun k hk => Nat.le_trans HB8.out.size hk) HB8.out HB8.out.size (by rw [HLT.out]; omega) ?_
        intro v3 w3 ho hb hg hat
        obtain ⟨A3, c3, hv, hc1, hC1⟩ := Kd.R_reads ho
        clear hc1 hC1
        generalize ((l.map S55.f1).take k ++ (l.map S55.f1).drop (k + 1)).length = n3 at hv
        subst hv
        have HO := Lib.hid ho
        have HB := Lib.hid hb
        have e0 := pw_cell_below hb d2
        have ef := (hb.frozen (p := ⟨q, 3, none⟩) hql).trans df
        clear ho hb hg hat
        refine hK.out _ _ ?_
        clear hK K
        refine norm_ (a' := ?_) ?_ ?_
        rotate_left
        · show Act.put _ (some 59) _ = _
          simp only [Act.put, List.setIfInBounds_toArray, List.set_cons_zero, List.set_cons_succ, i64_w, i32_w]
          rfl
        refine pure_ (i := 17) (N := some 60) (v := ?_) (a' := ?_) #[true, true, true, true, true, true, true, true, true, true, true, true, true, true, true, true, true, true, false, false] rfl rfl (any_of HT_.out (by kernel_rfl)) (fun _ _ _ h => h) (Or.inl ⟨by rfl, ?_⟩) ?_ ?_
        rotate_left
        · intro w'
          go_simp
          with_reducible rfl
        rotate_left
        · simp only [Act.put, List.setIfInBounds_toArray, List.set_cons_zero, List.set_cons_succ, i64_w, i32_w]
          rfl
        refine pure_ (i := 18) (N := some 61) (v := ?_) (a' := ?_) #[true, true, true, true, true, true, true, true, true, true, true, true, true, true, true, true, true, true, true, false] rfl rfl (any_of HT_.out (by kernel_rfl)) (fun _ _ _ h => h) (Or.inl ⟨by rfl, ?_⟩) ?_ ?_
        rotate_left
        · intro w'
          go_simp
          with_reducible rfl
        rotate_left
        · simp only [Act.put, List.setIfInBounds_toArray, List.set_cons_zero, List.set_cons_succ, i64_w, i32_w]
          rfl
        refine last_ (i := 19) (N := none) #[true, true, true, true, true, true, true, true, true, true, true, true, true, true, true, true, true, true, true, true] rfl rfl (one_of HT_.out (by kernel_rfl)) (by decide) (fun K hK => ?_)
        refine skip_ (w1 := ?_) (by rfl) rfl ?_ ?_
        rotate_left
        · go_simp
          rfl
        refine hK.out _ _ ?_
        clear hK K
        refine done_ (done_of HT_.out (by kernel_rfl)) ?_
        have hP3 := HD.out.fresh_put_a hBd HB.out HO.out
        have HBU := Lib.hid ((HBD.out.mono (G := fun k => k = q) (fun _ h => h.elim)).trans hP3.2 (fun k hk => .inl hk))
        clear e0 ef HO HB HO8 HB8 d2 df hcut1 hcut2 HTK HDP HLT HDR hCX HBD HD hql hBd
        obtain ⟨W3, hW3⟩ : ∃ W3, w3.setCell ⟨q, 3, none⟩ (.slice A3 n3 c3) = W3 := ⟨_, rfl⟩
        rw [hW3] at hP3 HBU ⊢
        clear hW3
        have HP3 := Lib.hid hP3
        clear hP3
        go_wp2
        go_ret
        refine ⟨by unfold endN; rw [HP.out]; rfl, .slice A1 n1 c1, .slice A3 n3 c3, ?_, HBT.out.trans HBU.out (fun k hk => .inl hk)⟩
        unfold ended
        rw [HP.out]
        show Rq _ _ _ _ _ ((l.eraseIdx k).map S55.f0) ((l.eraseIdx k).map S55.f1) _ _
        rw [map_erase, map_erase]
        exact HP3.out.1
      · have hb : (x.f0 == t) = false := beq_eq_false_iff_ne.2 heq
        have HE := Lib.hid heq
        clear heq
        subst hA
        go_wp2
        go_round
        case rel => exact ⟨k + 1, by omega, by go_num, Lib.hid (fun j hj => by by_cases e : j = k; exact e ▸ (by rw [HX.out]; exact HE.out); exact HN.out j (by omega))⟩
        case measure => simp [intOf]; omega
    · obtain rfl : k = l.length := by omega
      have HP := Lib.hid (place_none HN.out)
      go_wp2
      go_ret
      refine ⟨by unfold endN; rw [HP.out]; rfl, .slice A l.length c, va, ?_, But.refl _ _⟩
      unfold ended
      rw [HP.out]
      exact HQ.out
end Go.Proofs.Ytcmgdnhllkfjcaa.Reg
