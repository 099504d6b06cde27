/- Regis (chapter 21): one step on both registries: what 'does' does. -/
import Derived.Test.YtcmgdnhllkfjcaaReg2
import Derived.Test.YtcmgdnhllkfjcaaReg7
import Derived.Test.YtcmgdnhllkfjcaaReg10
import Derived.Test.YtcmgdnhllkfjcaaWTab
namespace Go.Proofs.Ytcmgdnhllkfjcaa.Reg
open Go.RowKit Go.Proofs.YtcmgdnhllkfjcaaW.PrintWords Go.Proofs.YtcmgdnhllkfjcaaW.PrintLast Go.Proofs.YtcmgdnhllkfjcaaW.PrintMore Go.Proofs.Ytcmgdnhllkfjcaa.Objs Go.Proofs.Ytcmgdnhllkfjcaa.PRegisPlays
set_option linter.unusedVariables false
set_option linter.unusedSimpArgs false

/-- Both registries. -/
def Rp (w : World) (B p : Nat) (v : Value) (s : St) : Prop := Rg w B p v s.l s.past s.last
def Rr (w : World) (B q : Nat) (vt va : Value) (r : St) : Prop := Rq w B q vt va (r.l.map S55.f0) (r.l.map S55.f1) (r.past + 1) r.last
def bTk (s : St) : Int := if s.l.length < 64 then s.last + 1 else 0
def bEp (s : St) : Int := if s.l.length < 64 then s.past + 1 else 0
def bEr (s : St) : Option Int := if s.l.length < 64 then none else some 16
def bCd (s : St) : Int := if s.l.length < 64 then 0 else 16
theorem bEr_code (s : St) : dolmenalike_Code.f (bEr s) = some (bCd s) := by
  unfold bEr bCd dolmenalike_Code.f
  by_cases hl : s.l.length < 64
  · rw [if_pos hl, if_pos hl]
  · rw [if_neg hl, if_neg hl]; rfl
def endE (l : List S55) (t : Int) : Option Int := match place l t with | none => some 1 | some _ => none
theorem endV_err (l : List S55) (t : Int) : endV l t = errW (endE l t) := by
  unfold endV endE
  cases place l t <;> rfl
theorem endE_code (l : List S55) (t : Int) : dolmenalike_Code.f (endE l t) = some (endN l t) := by
  unfold endE endN dolmenalike_Code.f codeOf
  cases place l t <;> simp
theorem begin_all (B p : Nat) (v : Value) (s : St) (w : World) (h : Rp w B p v s) (hB : B ≤ w.heap.size) (h0 : 0 ≤ s.past ∧ s.past ≤ 1000000) (h1 : 0 ≤ s.last ∧ s.last ≤ 1000000) :
    Calls Try.prog 15 #[.pointer (some ⟨p, 0, none⟩)] w fun e w' => e = .returned (.tuple #[.int .i64 (bTk s), .int .i64 (bEp s), errW (bEr s)]) ∧ ∃ v', Rp w' B p v' s.bgn ∧ But (fun k => k = p ∨ some k = v.ownBlock) w w' := by
  unfold Rp St.bgn bTk bEp bEr
  by_cases hl : s.l.length < 64
  · simp only [if_pos hl]
    refine (begin_calls B p v s.l s.past s.last w h hl hB h0 h1).mono ?_
    rintro e w' ⟨he, v', hg, hb, _⟩
    exact ⟨he, v', hg, hb⟩
  · simp only [if_neg hl]
    refine (begin_full B p v s.l s.past s.last w h (by omega)).mono ?_
    rintro e w' ⟨he, rfl⟩
    exact ⟨he, v, h, But.refl _ _⟩
theorem rbegin_all (B q : Nat) (vt va : Value) (r : St) (w : World) (h : Rr w B q vt va r) (hB : B ≤ w.heap.size) (h0 : 0 ≤ r.past ∧ r.past ≤ 999999) (h1 : 0 ≤ r.last ∧ r.last ≤ 1000000) :
    Calls Try.prog 21 #[.pointer (some ⟨q, 0, none⟩)] w fun e w' => e = .returned (.tuple #[.int .i64 (bTk r), .int .i64 (bEp r), .int .i64 (bCd r)]) ∧ ∃ vt' va', Rr w' B q vt' va' r.bgn ∧ But (fun k => k = q ∨ some k = vt.ownBlock ∨ some k = va.ownBlock) w w' := by
  unfold Rr St.bgn bTk bEp bCd
  by_cases hl : r.l.length < 64
  · simp only [if_pos hl]
    refine (rbegin_calls B q vt va r.l (r.past + 1) r.last w h hl hB (by omega) h1).mono ?_
    rintro e w' ⟨he, vt', va', hg, hb⟩
    refine ⟨he, vt', va', ?_, hb⟩
    rw [List.map_append, List.map_append]
    exact hg
  · simp only [if_neg hl]
    refine (rbegin_full B q vt va r.l (r.past + 1) r.last w h (by omega)).mono ?_
    rintro e w' ⟨he, rfl⟩
    exact ⟨he, vt, va, h, But.refl _ _⟩
/-- The two are apart, by what their blocks hold. -/
theorem two_apart {w : World} {B p q : Nat} {v vt va : Value} {s r : St} (h : Rp w B p v s) (g : Rr w B q vt va r) :
    (¬ (p = q ∨ some p = vt.ownBlock ∨ some p = va.ownBlock)) ∧ (∀ k, v.ownBlock = some k → ¬ (k = q ∨ some k = vt.ownBlock ∨ some k = va.ownBlock)) ∧
      (¬ (q = p ∨ some q = v.ownBlock)) ∧ (∀ k, vt.ownBlock = some k → ¬ (k = p ∨ some k = v.ownBlock)) ∧ (∀ k, va.ownBlock = some k → ¬ (k = p ∨ some k = v.ownBlock)) := by
  obtain ⟨i0, o0⟩ := Kd.R_own h.row
  obtain ⟨i1, o1⟩ := Kd.R_own g.rt
  obtain ⟨i2, o2⟩ := Kd.R_own g.ra
  have hpq : p ≠ q := blk_ne h.at_ g.at_ (by decide)
  have n1 := ne_types o0 o1 (by decide)
  have n2 := ne_types o0 o2 (by decide)
  have pt := own_ne o1 h.at_ (by decide)
  have pa := own_ne o2 h.at_ (by decide)
  have qv := own_ne o0 g.at_ (by decide)
  refine ⟨?_, fun k hk => ?_, ?_, fun k hk => ?_, fun k hk => ?_⟩
  · rintro (e | e | e)
    · exact hpq e
    · exact pt e
    · exact pa e
  · rintro (e | e | e)
    · exact qv (by rw [← e, hk])
    · exact n1 k hk e.symm
    · exact n2 k hk e.symm
  · rintro (e | e)
    · exact hpq e.symm
    · exact qv e
  · rintro (e | e)
    · exact pt (by rw [← e, hk])
    · exact n1 k e.symm hk
  · rintro (e | e)
    · exact pa (by rw [← e, hk])
    · exact n2 k e.symm hk
theorem Rp.base {w : World} {B p : Nat} {v : Value} {s : St} (h : Rp w B p v s) (hp : B ≤ p) : ∀ k, k = p ∨ some k = v.ownBlock → B ≤ k := by
  rintro k (rfl | e)
  · exact hp
  · exact Kd.R_base h.row k e.symm
theorem Rr.base {w : World} {B q : Nat} {vt va : Value} {r : St} (h : Rr w B q vt va r) (hq : B ≤ q) : ∀ k, k = q ∨ some k = vt.ownBlock ∨ some k = va.ownBlock → B ≤ k := by
  rintro k (rfl | e | e)
  · exact hq
  · exact Kd.R_base h.rt k e.symm
  · exact Kd.R_base h.ra k e.symm
/-- What does does: whether the answers were alike, and what both are then. -/
def Did (w0 w : World) (B p q : Nat) (s r : St) (k n : Int) (e : Ending) (w' : World) : Prop :=
  ∃ b, e = .returned (.bool b) ∧ (s = r → b = true) ∧ ∃ v' vt' va', Rp w' B p v' (s.step k n) ∧ Rr w' B q vt' va' (r.step k n) ∧ Below B w w'
set_option maxRecDepth 100000 in
set_option maxHeartbeats 1600000 in
theorem does_one (B p q : Nat) (v vt va : Value) (s r : St) (n : Int) (w : World) (h : Rp w B p v s) (g : Rr w B q vt va r) (hB : B ≤ w.heap.size) (hp : B ≤ p) (hq : B ≤ q)
    (h0 : 0 ≤ s.past ∧ s.past ≤ 1000000) (h1 : 0 ≤ s.last ∧ s.last ≤ 1000000) (g0 : 0 ≤ r.past ∧ r.past ≤ 999999) (g1 : 0 ≤ r.last ∧ r.last ≤ 1000000) :
    Calls Try.prog 10 #[.pointer (some ⟨p, 0, none⟩), .pointer (some ⟨q, 0, none⟩), .agg #[.int .i64 1, .int .i64 n]] w (Did w w B p q s r 1 n) := by
  have hA := But.ofAlloc w (.cells #[.int .i64 1, .int .i64 n] 32)
  have HA := Lib.hid hA
  have HG := Lib.hid (Rg.but h hA (fun h => h) (fun _ _ h => h))
  have HQ := Lib.hid (Rq.but g hA (fun h => h) (fun _ _ h => h) (fun _ _ h => h))
  have hBW : B ≤ w.heap.size + 1 := by omega
  clear h g hA
  go_enter Try.func10, Try.ntmps10
  go_wp2_with fail
  refine (begin_all B p v s _ HG.out (by simpa using hBW) h0 h1).mono ?_
  rintro e w1 ⟨rfl, v1, hg1, hb1⟩
  have hap := two_apart (s := s) (r := r) HG.out HQ.out
  have HQ1 := Lib.hid (Rq.but HQ.out hb1 hap.2.2.1 hap.2.2.2.1 hap.2.2.2.2)
  have HG1 := Lib.hid hg1
  have hBel : Below B w w1 := (HA.out.below hB (fun _ h => h.elim)).trans (hb1.below (by simpa using hBW) (Rp.base (s := s) HG.out hp))
  have HBel := Lib.hid hBel
  have hB1 : B ≤ w1.heap.size := Nat.le_trans hB hBel.size
  clear hg1 hb1 hap hBel
  obtain ⟨a, ha⟩ : ∃ a, bTk s = a := ⟨_, rfl⟩
  obtain ⟨b, hb⟩ : ∃ b, bEp s = b := ⟨_, rfl⟩
  obtain ⟨c, hc⟩ : ∃ c, bEr s = c := ⟨_, rfl⟩
  rw [ha, hb, hc]
  have Ha := Lib.hid ha
  have Hb := Lib.hid hb
  have Hc := Lib.hid hc
  clear ha hb hc
  go_wp2_with fail
  refine (rbegin_all B q vt va r w1 HQ1.out hB1 g0 g1).mono ?_
  rintro e w2 ⟨rfl, vt2, va2, hq2, hb2⟩
  have hap := two_apart (s := s.bgn) (r := r) HG1.out HQ1.out
  have HG2 := Lib.hid (Rg.but HG1.out hb2 hap.1 hap.2.1)
  have HQ2 := Lib.hid hq2
  have HBel2 := Lib.hid (HBel.out.trans (hb2.below hB1 (Rr.base (r := r) HQ1.out hq)))
  clear hq2 hb2 hap
  obtain ⟨a', ha⟩ : ∃ a', bTk r = a' := ⟨_, rfl⟩
  obtain ⟨b', hb⟩ : ∃ b', bEp r = b' := ⟨_, rfl⟩
  obtain ⟨c', hc⟩ : ∃ c', bCd r = c' := ⟨_, rfl⟩
  rw [ha, hb, hc]
  have Ha' := Lib.hid ha
  have Hb' := Lib.hid hb
  have Hc' := Lib.hid hc
  clear ha hb hc
  obtain ⟨cd, hcd⟩ : ∃ cd, bCd s = cd := ⟨_, rfl⟩
  have HCD := Lib.hid hcd
  have HCF := Lib.hid (show dolmenalike_Code.f c = some cd by rw [← Hc.out, bEr_code, hcd])
  clear hcd
  have hfin : ∀ (x : Bool) (w3 : World), Below w2.heap.size w2 w3 → ((a = a' ∧ b = b' ∧ cd = c') → x = true) → Did w w B p q s r 1 n (.returned (.bool x)) w3 := by
    intro x w3 hb3 hx
    refine ⟨x, rfl, fun e => hx ?_, v1, vt2, va2, Rg.but HG2.out (But.ofBelow (F := fun _ => False) hb3) (fun h => h) (fun _ _ h => h), Rq.but HQ2.out (But.ofBelow (F := fun _ => False) hb3) (fun h => h) (fun _ _ h => h) (fun _ _ h => h), HBel2.out.trans (hb3.mono (Nat.le_trans hB HBel2.out.size))⟩
    subst e
    exact ⟨Ha.out.symm.trans Ha'.out, Hb.out.symm.trans Hb'.out, HCD.out.symm.trans Hc'.out⟩
  have HF := Lib.hid hfin
  clear hfin
  by_cases e1 : a = a'
  · have t1 : (a == a') = true := beq_iff_eq.2 e1
    have E1 := Lib.hid e1
    clear e1
    by_cases e2 : b = b'
    · have t2 : (b == b') = true := beq_iff_eq.2 e2
      have E2 := Lib.hid e2
      clear e2
      go_wp2_with fail
      refine (dolmenalike_Code.calls c cd _ HCF.out).mono ?_
      rintro e w3 ⟨rfl, hd3⟩
      have hb3 := hd3.below
      have HB3 := Lib.hid hb3
      clear hd3 hb3
      go_wp2
      go_ret
      exact HF.out _ _ HB3.out (fun h => by simp [h.2.2])
    · have t2 : (b == b') = false := beq_eq_false_iff_ne.2 e2
      have E2 := Lib.hid e2
      clear e2
      go_wp2
      go_ret
      exact HF.out _ _ (Below.refl _ _) (fun h => absurd h.2.1 E2.out)
  · have t1 : (a == a') = false := beq_eq_false_iff_ne.2 e1
    have E1 := Lib.hid e1
    clear e1
    go_wp2
    go_ret
    exact HF.out _ _ (Below.refl _ _) (fun h => absurd h.1 E1.out)
theorem step_two (s : St) (n : Int) : s.step 2 n = s.fin n := by unfold St.step; rw [if_neg (by decide), if_pos rfl]
theorem step_three (s : St) (n : Int) : s.step 3 n = s.adv := by unfold St.step; rw [if_neg (by decide), if_neg (by decide), if_pos rfl]
theorem step_else (s : St) (k n : Int) (h1 : k ≠ 1) (h2 : k ≠ 2) (h3 : k ≠ 3) : s.step k n = s := by unfold St.step; rw [if_neg h1, if_neg h2, if_neg h3]
def do7.T7 : Bool × List (List Nat × List Nat) := (true, [([], []), ([], []), ([1], [1]), ([0, 2], [0, 2]), ([3, 3], [3]), ([], []), ([], []), ([6], [6]), ([5, 7, 4], [5, 7]), ([4, 8], [4, 8]), ([9, 8, 0, 1, 2, 3, 4, 5, 6, 7, 8, 9], [9])])
def do7.B7 : List Nat := [0, 0, 2, 7, 15, 0, 0, 64, 255, 511, 1023]
theorem do7.tab7 : rtab .any (opsOf Try.f10 7) = do7.T7 := by kernel_rfl
theorem do7.bits7 : waitsOk do7.T7.2 do7.B7 = true := by kernel_rfl
set_option maxRecDepth 100000 in
set_option maxHeartbeats 1600000 in
theorem does_two (B p q : Nat) (v vt va : Value) (s r : St) (n : Int) (w : World) (h : Rp w B p v s) (g : Rr w B q vt va r) (hB : B ≤ w.heap.size) (hp : B ≤ p) (hq : B ≤ q) (hrl : r.l.length ≤ 1000) :
    Calls Try.prog 10 #[.pointer (some ⟨p, 0, none⟩), .pointer (some ⟨q, 0, none⟩), .agg #[.int .i64 2, .int .i64 n]] w (Did w w B p q s r 2 n) := by
  have hA := But.ofAlloc w (.cells #[.int .i64 2, .int .i64 n] 32)
  have HA := Lib.hid hA
  have HG := Lib.hid (Rg.but h hA (fun h => h) (fun _ _ h => h))
  have HQ := Lib.hid (Rq.but g hA (fun h => h) (fun _ _ h => h) (fun _ _ h => h))
  have HX := Lib.hid (At.new w [.int .i64 2, .int .i64 n] 32)
  have x1 := HX.out.cell (j := 1) rfl
  have hpl := h.at_.lt
  have HNB := Lib.hid (show ¬ (w.heap.size = p ∨ some w.heap.size = v.ownBlock) from fun e => e.elim (fun e => by omega) (fun e => by have := Kd.R_lt h.row _ e.symm; omega))
  have hBW : B ≤ w.heap.size + 1 := by omega
  clear h g hA hpl
  go_enter Try.func10, Try.ntmps10
  go_wp2_with fail
  refine start_ (n := 11) (S := fun w' => w'.cell? ⟨w.heap.size, 1, none⟩ = some (.int .i64 n)) (ds := [8]) #[false, false, false, false, false, false, false, false, false, false, false] (by kernel_rfl) rfl rfl (x1) (fun hHeld => ?_)
  refine with_tabW do7.tab7 do7.bits7 (fun HT_ HW_ => ?_)
  generalize hWd : (w.alloc (.cells #[.int .i64 2, .int .i64 n] 32)).drew = W1 at hHeld ⊢
  have hbd : But (fun _ => False) (w.alloc (.cells #[.int .i64 2, .int .i64 n] 32)) W1 := by rw [← hWd]; exact But.ofDrewN (w.alloc (.cells #[.int .i64 2, .int .i64 n] 32)) 1
  have hbx : At W1 w.heap.size [.int .i64 2, .int .i64 n] 32 := HX.out.but hbd (fun h => h)
  have HG1 := Lib.hid (Rg.but HG.out hbd (fun h => h) (fun _ _ h => h))
  have HQ1 := Lib.hid (Rq.but HQ.out hbd (fun h => h) (fun _ _ h => h) (fun _ _ h => h))
  have HAP := Lib.hid (two_apart (s := s) (r := r) HG1.out HQ1.out)
  have HBel := Lib.hid ((HA.out.below hB (fun _ h => h.elim)).trans (hbd.below (by simpa using hBW) (fun _ h => h.elim)))
  have hB1 : B ≤ W1.heap.size := Nat.le_trans hB HBel.out.size
  have HBX := Lib.hid hbx
  clear hWd hbd hbx
  refine pure_ (i := 0) (N := some 45) (v := ?_) (a' := ?_) #[true, false, false, false, false, false, false, false, false, false, false] rfl rfl (any_of HT_.out (by kernel_rfl)) (fun _ _ _ h => h) (Or.inl ⟨by rfl, ?_⟩) ?_ ?_
  rotate_left
  · intro w'
    go_simp
    with_reducible rfl
  rotate_left
  · simp only [Act.put, List.setIfInBounds_toArray, List.set_cons_zero, List.set_cons_succ, i64_w, i32_w]
    rfl
  refine pure_ (i := 1) (N := some 46) (v := ?_) (a' := ?_) #[true, true, false, false, false, false, false, false, false, false, false] rfl rfl (any_of HT_.out (by kernel_rfl)) (fun _ _ _ h => h) (Or.inl ⟨by rfl, ?_⟩) ?_ ?_
  rotate_left
  · intro w'
    go_simp
    with_reducible rfl
  rotate_left
  · simp only [Act.put, List.setIfInBounds_toArray, List.set_cons_zero, List.set_cons_succ, i64_w, i32_w]
    rfl
  refine pure_ (i := 5) (N := some 50) (v := ?_) (a' := ?_) #[true, true, false, false, false, true, false, false, false, false, false] rfl rfl (any_of HT_.out (by kernel_rfl)) (fun _ _ _ h => h) (Or.inl ⟨by rfl, ?_⟩) ?_ ?_
  rotate_left
  · intro w'
    go_simp
    with_reducible rfl
  rotate_left
  · simp only [Act.put, List.setIfInBounds_toArray, List.set_cons_zero, List.set_cons_succ, i64_w, i32_w]
    rfl
  refine pure_ (i := 6) (N := some 51) (v := ?_) (a' := ?_) #[true, true, false, false, false, true, true, false, false, false, false] rfl rfl (any_of HT_.out (by kernel_rfl)) (fun _ _ _ h => h) (Or.inl ⟨by rfl, ?_⟩) ?_ ?_
  rotate_left
  · intro w'
    go_simp
    with_reducible rfl
  rotate_left
  · simp only [Act.put, List.setIfInBounds_toArray, List.set_cons_zero, List.set_cons_succ, i64_w, i32_w]
    rfl
  refine take_ (i := 2) (N := some 47) (v := ?_) (a' := ?_) #[true, true, true, false, false, true, true, false, false, false, false] rfl rfl (take_ofW HT_.out HW_.out (by kernel_rfl)) (fun _ _ _ h => h) (Or.inl ⟨by rfl, ?_⟩) hHeld ?_ ?_
  rotate_left
  · intro w' s0
    go_simp
    with_reducible rfl
  rotate_left
  · simp only [Act.put, List.setIfInBounds_toArray, List.set_cons_zero, List.set_cons_succ, i64_w, i32_w]
    rfl
  refine take_ (i := 7) (N := some 52) (v := ?_) (a' := ?_) #[true, true, true, false, false, true, true, true, false, false, false] rfl rfl (take_ofW HT_.out HW_.out (by kernel_rfl)) (fun _ _ _ h => h) (Or.inl ⟨by rfl, ?_⟩) hHeld ?_ ?_
  rotate_left
  · intro w' s0
    go_simp
    with_reducible rfl
  rotate_left
  · simp only [Act.put, List.setIfInBounds_toArray, List.set_cons_zero, List.set_cons_succ, i64_w, i32_w]
    rfl
  refine one_ (i := 3) (N := some 48) #[true, true, true, true, false, true, true, true, false, false, false] rfl rfl (one_of HT_.out (by kernel_rfl)) (by decide) (fun K hK => ?_)
  refine goes_ Try.func14 (by kernel_rfl) rfl #[.pointer (some ⟨p, 0, none⟩), .int .i64 n] (by rfl) rfl rfl (by simp only [List.map_toArray, List.map_cons, List.map_nil]; rfl) ?_
  with_reducible refine (end_calls B p v s.l s.past s.last n W1 HG1.out).mono ?_
  rintro e w3 ⟨rfl, v3, hg3, hb3, _⟩
  refine ⟨_, rfl, ?_⟩
  have HX3 := Lib.hid (HBX.out.but hb3 HNB.out)
  have HG3 := Lib.hid hg3
  have HB3 := Lib.hid hb3
  have HQ3 := Lib.hid (Rq.but HQ1.out hb3 HAP.out.2.2.1 HAP.out.2.2.2.1 HAP.out.2.2.2.2)
  have HBel3 := Lib.hid (HBel.out.trans (hb3.below hB1 (Rp.base (s := s) HG1.out hp)))
  clear hg3 hb3
  refine hK.out _ _ (HX3.out.cell (j := 1) rfl) (fun hHeld => ?_)
  clear hK K
  refine norm_ (a' := ?_) ?_ ?_
  rotate_left
  · show Act.put _ (some 48) _ = _
    simp only [Act.put, List.setIfInBounds_toArray, List.set_cons_zero, List.set_cons_succ, i64_w, i32_w]
    rfl
  refine one_ (i := 4) (N := some 49) #[true, true, true, true, true, true, true, true, false, false, false] rfl rfl (one_of HT_.out (by kernel_rfl)) (by decide) (fun K hK => ?_)
  rw [endV_err s.l n]
  refine goes_ Try.func16 (by kernel_rfl) rfl #[errW (endE s.l n)] (by rfl) rfl rfl (by simp only [List.map_toArray, List.map_cons, List.map_nil]; rfl) ?_
  with_reducible refine (dolmenalike_Code.calls (endE s.l n) (endN s.l n) w3 (endE_code s.l n)).mono ?_
  rintro e w4 ⟨rfl, hd4⟩
  refine ⟨_, rfl, ?_⟩
  have hb4 := hd4.below
  have HX4 := Lib.hid (HX3.out.below' hb4)
  have HG4 := Lib.hid (Rg.but HG3.out (But.ofBelow (F := fun _ => False) hb4) (fun h => h) (fun _ _ h => h))
  have HQ4 := Lib.hid (Rq.but HQ3.out (But.ofBelow (F := fun _ => False) hb4) (fun h => h) (fun _ _ h => h) (fun _ _ h => h))
  have HBel4 := Lib.hid (HBel3.out.trans (hb4.mono (Nat.le_trans hB HBel3.out.size)))
  have hB4 : B ≤ w4.heap.size := Nat.le_trans hB HBel4.out.size
  clear hd4 hb4
  refine hK.out _ _ (HX4.out.cell (j := 1) rfl) (fun hHeld => ?_)
  clear hK K
  refine norm_ (a' := ?_) ?_ ?_
  rotate_left
  · show Act.put _ (some 49) _ = _
    simp only [Act.put, List.setIfInBounds_toArray, List.set_cons_zero, List.set_cons_succ, i64_w, i32_w]
    rfl
  refine last_ (i := 8) (N := some 53) #[true, true, true, true, true, true, true, true, true, false, false] rfl rfl (one_of HT_.out (by kernel_rfl)) (by decide) (fun K hK => ?_)
  refine goes_ Try.func22 (by kernel_rfl) rfl #[.pointer (some ⟨q, 0, none⟩), .int .i64 n] (by rfl) rfl rfl (by simp only [List.map_toArray, List.map_cons, List.map_nil]; rfl) ?_
  with_reducible refine (rend_calls B q vt va r.l (r.past + 1) r.last n w4 HQ4.out hrl hB4).mono ?_
  rintro e w5 ⟨rfl, vt5, va5, hr5, hb5⟩
  refine ⟨_, rfl, ?_⟩
  have HQ5 := Lib.hid hr5
  have hap5 := two_apart (s := s.fin n) (r := r) HG4.out HQ4.out
  have HG5 := Lib.hid (Rg.but HG4.out hb5 (fun h => hap5.1 (.inl h)) (fun k hk h => hap5.2.1 k hk (.inl h)))
  have HBel5 := Lib.hid (HBel4.out.trans (hb5.below hB4 (fun k hk => hk ▸ hq)))
  clear hr5 hb5 hap5
  refine hK.out _ _ ?_
  clear hK K
  refine norm_ (a' := ?_) ?_ ?_
  rotate_left
  · show Act.put _ (some 53) _ = _
    simp only [Act.put, List.setIfInBounds_toArray, List.set_cons_zero, List.set_cons_succ, i64_w, i32_w]
    rfl
  refine pure_ (i := 9) (N := some 54) (v := ?_) (a' := ?_) #[true, true, true, true, true, true, true, true, true, true, false] rfl rfl (any_of HT_.out (by kernel_rfl)) (fun _ _ _ h => h) (Or.inl ⟨by rfl, ?_⟩) ?_ ?_
  rotate_left
  · intro w'
    go_simp
    with_reducible rfl
  rotate_left
  · simp only [Act.put, List.setIfInBounds_toArray, List.set_cons_zero, List.set_cons_succ, i64_w, i32_w]
    rfl
  refine pure_ (i := 10) (N := some 6) (v := ?_) (a' := ?_) #[true, true, true, true, true, true, true, true, true, true, true] rfl rfl (any_of HT_.out (by kernel_rfl)) (fun _ _ _ h => h) (Or.inl ⟨by rfl, ?_⟩) ?_ ?_
  rotate_left
  · intro w'
    go_simp
    with_reducible rfl
  rotate_left
  · simp only [Act.put, List.setIfInBounds_toArray, List.set_cons_zero, List.set_cons_succ, i64_w, i32_w]
    rfl
  refine done_ (done_of HT_.out (by kernel_rfl)) ?_
  go_wp2
  go_ret
  refine ⟨_, rfl, fun e => by subst e; simp, v3, vt5, va5, ?_, ?_, HBel5.out⟩
  · rw [step_two]; exact HG5.out
  · rw [step_two]; exact HQ5.out
def do10.T10 : Bool × List (List Nat × List Nat) := (true, [([], []), ([0], [0]), ([], []), ([2], [2]), ([3], [3]), ([4], [4]), ([5], [5]), ([1, 6], [1, 6]), ([7, 1, 0, 1, 2, 3, 4, 5, 6, 7], [7])])
def do10.B10 : List Nat := [0, 1, 0, 4, 12, 28, 60, 127, 255]
theorem do10.tab10 : rtab .any (opsOf Try.f10 10) = do10.T10 := by kernel_rfl
theorem do10.bits10 : waitsOk do10.T10.2 do10.B10 = true := by kernel_rfl
set_option maxRecDepth 100000 in
set_option maxHeartbeats 1600000 in
theorem does_three (B p q : Nat) (v vt va : Value) (s r : St) (n : Int) (w : World) (h : Rp w B p v s) (g : Rr w B q vt va r) (hB : B ≤ w.heap.size) (hp : B ≤ p) (hq : B ≤ q)
    (h0 : 0 ≤ s.past ∧ s.past ≤ 1000000) (g0 : 0 ≤ r.past ∧ r.past ≤ 999999) :
    Calls Try.prog 10 #[.pointer (some ⟨p, 0, none⟩), .pointer (some ⟨q, 0, none⟩), .agg #[.int .i64 3, .int .i64 n]] w (Did w w B p q s r 3 n) := by
  have hA := But.ofAlloc w (.cells #[.int .i64 3, .int .i64 n] 32)
  have HA := Lib.hid hA
  have hG := Rg.but h hA (fun h => h) (fun _ _ h => h)
  have hQ := Rq.but g hA (fun h => h) (fun _ _ h => h) (fun _ _ h => h)
  have hap := two_apart (s := s) (r := r) hG hQ
  have HQ0 := Lib.hid hQ
  have c0 := hQ.at_.cell (j := 0) rfl
  have f0 := hQ.at_.frozen 0
  -- behind the store of the epoch
  have hset : But (fun k => k = q) (w.alloc (.cells #[.int .i64 3, .int .i64 n] 32)) ((w.alloc (.cells #[.int .i64 3, .int .i64 n] 32)).setCell ⟨q, 0, none⟩ (.int .i64 (r.past + 1 + 1))) := But.ofSet _ q 0 _
  have hG2 := Rg.but hG hset (fun h => hap.1 (.inl h)) (fun k hk h => hap.2.1 k hk (.inl h))
  have hQ2 : Rr ((w.alloc (.cells #[.int .i64 3, .int .i64 n] 32)).setCell ⟨q, 0, none⟩ (.int .i64 (r.past + 1 + 1))) B q vt va r.adv := ⟨hQ.at_.set 0 _, Kd.R_far hQ.rt (p := ⟨q, 0, none⟩) (fun k hk => hk.1) _, Kd.R_far hQ.ra (p := ⟨q, 0, none⟩) (fun k hk => hk.1) _⟩
  have hBel2 := (hA.below hB (fun _ h => h.elim)).trans (hset.below (by simp; omega) (fun k hk => hk ▸ hq))
  obtain ⟨W2, hW2⟩ : ∃ W2, (w.alloc (.cells #[.int .i64 3, .int .i64 n] 32)).setCell ⟨q, 0, none⟩ (.int .i64 (r.past + 1 + 1)) = W2 := ⟨_, rfl⟩
  rw [hW2] at hG2 hQ2 hBel2
  have HG2 := Lib.hid hG2
  have HQ2 := Lib.hid hQ2
  have HBel2 := Lib.hid hBel2
  have hB2 := Nat.le_trans hB hBel2.size
  have y0 := hQ2.at_.cell (j := 0) rfl
  clear h g hA hG hQ hap hset hG2 hQ2 hBel2
  go_enter Try.func10, Try.ntmps10
  go_wp2_with fail
  clear hW2 c0 f0
  refine start_ (n := 9) (S := fun w' => w'.cell? ⟨q, 0, none⟩ = some (.int .i64 (r.past + 1 + 1))) (ds := []) #[false, false, false, false, false, false, false, false, false] (by kernel_rfl) rfl rfl (y0) (fun hHeld => ?_)
  refine with_tabW do10.tab10 do10.bits10 (fun HT_ HW_ => ?_)
  generalize hWd : W2.drew = W3 at hHeld ⊢
  have hbd : But (fun _ => False) W2 W3 := by rw [← hWd]; exact But.ofDrewN W2 1
  have HG3 := Lib.hid (Rg.but HG2.out hbd (fun h => h) (fun _ _ h => h))
  have HQ3 := Lib.hid (Rq.but HQ2.out hbd (fun h => h) (fun _ _ h => h) (fun _ _ h => h))
  have HAP := Lib.hid (two_apart (s := s) (r := r.adv) HG3.out HQ3.out)
  have HBel3 := Lib.hid (HBel2.out.trans (hbd.below hB2 (fun _ h => h.elim)))
  have hB3 : B ≤ W3.heap.size := Nat.le_trans hB HBel3.out.size
  clear hWd hbd
  refine pure_ (i := 0) (N := some 64) (v := ?_) (a' := ?_) #[true, false, false, false, false, false, false, false, false] rfl rfl (any_of HT_.out (by kernel_rfl)) (fun _ _ _ h => h) (Or.inl ⟨by rfl, ?_⟩) ?_ ?_
  rotate_left
  · intro w'
    go_simp
    with_reducible rfl
  rotate_left
  · simp only [Act.put, List.setIfInBounds_toArray, List.set_cons_zero, List.set_cons_succ, i64_w, i32_w]
    rfl
  refine pure_ (i := 2) (N := some 66) (v := ?_) (a' := ?_) #[true, false, true, false, false, false, false, false, false] rfl rfl (any_of HT_.out (by kernel_rfl)) (fun _ _ _ h => h) (Or.inl ⟨by rfl, ?_⟩) ?_ ?_
  rotate_left
  · intro w'
    go_simp
    with_reducible rfl
  rotate_left
  · simp only [Act.put, List.setIfInBounds_toArray, List.set_cons_zero, List.set_cons_succ, i64_w, i32_w]
    rfl
  refine pure_ (i := 3) (N := some 67) (v := ?_) (a' := ?_) #[true, false, true, true, false, false, false, false, false] rfl rfl (any_of HT_.out (by kernel_rfl)) (fun _ _ _ h => h) (Or.inl ⟨by rfl, ?_⟩) ?_ ?_
  rotate_left
  · intro w'
    go_simp
    with_reducible rfl
  rotate_left
  · simp only [Act.put, List.setIfInBounds_toArray, List.set_cons_zero, List.set_cons_succ, i64_w, i32_w]
    rfl
  refine pure_ (i := 4) (N := some 68) (v := ?_) (a' := ?_) #[true, false, true, true, true, false, false, false, false] rfl rfl (any_of HT_.out (by kernel_rfl)) (fun _ _ _ h => h) (Or.inl ⟨by rfl, ?_⟩) ?_ ?_
  rotate_left
  · intro w'
    go_simp
    with_reducible rfl
  rotate_left
  · simp only [Act.put, List.setIfInBounds_toArray, List.set_cons_zero, List.set_cons_succ, i64_w, i32_w]
    rfl
  refine take_ (i := 5) (N := some 69) (v := ?_) (a' := ?_) #[true, false, true, true, true, true, false, false, false] rfl rfl (take_ofW HT_.out HW_.out (by kernel_rfl)) (fun _ _ _ h => h) (Or.inl ⟨by rfl, ?_⟩) hHeld ?_ ?_
  rotate_left
  · intro w' s0
    go_simp
    with_reducible rfl
  rotate_left
  · simp only [Act.put, List.setIfInBounds_toArray, List.set_cons_zero, List.set_cons_succ, i64_w, i32_w]
    rfl
  refine pure_ (i := 6) (N := some 70) (v := ?_) (a' := ?_) #[true, false, true, true, true, true, true, false, false] rfl rfl (any_of HT_.out (by kernel_rfl)) (fun _ _ _ h => h) (Or.inl ⟨by rfl, ?_⟩) ?_ ?_
  rotate_left
  · intro w'
    go_simp
    with_reducible rfl
  rotate_left
  · simp only [Act.put, List.setIfInBounds_toArray, List.set_cons_zero, List.set_cons_succ, i64_w, i32_w]
    rfl
  refine one_ (i := 1) (N := some 65) #[true, true, true, true, true, true, true, false, false] rfl rfl (one_of HT_.out (by kernel_rfl)) (by decide) (fun K hK => ?_)
  refine goes_ Try.func11 (by kernel_rfl) rfl #[.pointer (some ⟨p, 0, none⟩)] (by rfl) rfl rfl (by simp only [List.map_toArray, List.map_cons, List.map_nil]; rfl) ?_
  with_reducible refine (advance_calls B p v s.l s.past s.last W3 HG3.out h0).mono ?_
  rintro e w4 ⟨rfl, hg4, hb4⟩
  refine ⟨_, rfl, ?_⟩
  have HQ4 := Lib.hid (Rq.but HQ3.out hb4 (fun h => HAP.out.2.2.1 (.inl h)) (fun k hk h => HAP.out.2.2.2.1 k hk (.inl h)) (fun k hk h => HAP.out.2.2.2.2 k hk (.inl h)))
  have HG4 := Lib.hid hg4
  have HBel4 := Lib.hid (HBel3.out.trans (hb4.below hB3 (fun k hk => hk ▸ hp)))
  clear hg4 hb4
  refine hK.out _ _ (HQ4.out.at_.cell (j := 0) rfl) (fun hHeld => ?_)
  clear hK K
  refine norm_ (a' := ?_) ?_ ?_
  rotate_left
  · show Act.put _ (some 65) _ = _
    simp only [Act.put, List.setIfInBounds_toArray, List.set_cons_zero, List.set_cons_succ, i64_w, i32_w]
    rfl
  refine pure_ (i := 7) (N := some 71) (v := ?_) (a' := ?_) #[true, true, true, true, true, true, true, true, false] rfl rfl (any_of HT_.out (by kernel_rfl)) (fun _ _ _ h => h) (Or.inl ⟨by rfl, ?_⟩) ?_ ?_
  rotate_left
  · intro w'
    go_simp
    with_reducible rfl
  rotate_left
  · simp only [Act.put, List.setIfInBounds_toArray, List.set_cons_zero, List.set_cons_succ, i64_w, i32_w]
    rfl
  refine pure_ (i := 8) (N := some 6) (v := ?_) (a' := ?_) #[true, true, true, true, true, true, true, true, true] rfl rfl (any_of HT_.out (by kernel_rfl)) (fun _ _ _ h => h) (Or.inl ⟨by rfl, ?_⟩) ?_ ?_
  rotate_left
  · intro w'
    go_simp
    with_reducible rfl
  rotate_left
  · simp only [Act.put, List.setIfInBounds_toArray, List.set_cons_zero, List.set_cons_succ, i64_w, i32_w]
    rfl
  refine done_ (done_of HT_.out (by kernel_rfl)) ?_
  go_wp2
  go_ret
  refine ⟨_, rfl, fun e => by subst e; simp; unfold wrap64; omega, v, vt, va, ?_, ?_, HBel4.out⟩
  · rw [step_three]; exact HG4.out
  · rw [step_three]; exact HQ4.out
theorem does_else (B p q : Nat) (v vt va : Value) (s r : St) (k n : Int) (w : World) (h : Rp w B p v s) (g : Rr w B q vt va r) (hB : B ≤ w.heap.size) (h1 : k ≠ 1) (h2 : k ≠ 2) (h3 : k ≠ 3) :
    Calls Try.prog 10 #[.pointer (some ⟨p, 0, none⟩), .pointer (some ⟨q, 0, none⟩), .agg #[.int .i64 k, .int .i64 n]] w (Did w w B p q s r k n) := by
  have hA := But.ofAlloc w (.cells #[.int .i64 k, .int .i64 n] 32)
  have hfin : Did w w B p q s r k n (.returned (.bool true)) (w.alloc (.cells #[.int .i64 k, .int .i64 n] 32)) := by
    refine ⟨true, rfl, fun _ => rfl, v, vt, va, ?_, ?_, hA.below hB (fun _ h => h.elim)⟩
    · rw [step_else s k n h1 h2 h3]; exact Rg.but h hA (fun h => h) (fun _ _ h => h)
    · rw [step_else r k n h1 h2 h3]; exact Rq.but g hA (fun h => h) (fun _ _ h => h) (fun _ _ h => h)
  have HF := Lib.hid hfin
  have t1 : (k == 1) = false := beq_eq_false_iff_ne.2 h1
  have t2 : (k == 2) = false := beq_eq_false_iff_ne.2 h2
  have t3 : (k == 3) = false := beq_eq_false_iff_ne.2 h3
  clear h g hA hfin h1 h2 h3
  go_enter Try.func10, Try.ntmps10
  go_wp2
  go_ret
  exact HF.out
theorem does_calls (B p q : Nat) (v vt va : Value) (s r : St) (k n : Int) (w : World) (h : Rp w B p v s) (g : Rr w B q vt va r) (hB : B ≤ w.heap.size) (hp : B ≤ p) (hq : B ≤ q) {a b : Nat} (hs : s.Ok a) (hr : r.Ok b) (ha : a ≤ 1000) (hb : b ≤ 1000) :
    Calls Try.prog 10 #[.pointer (some ⟨p, 0, none⟩), .pointer (some ⟨q, 0, none⟩), .agg #[.int .i64 k, .int .i64 n]] w (Did w w B p q s r k n) := by
  have p1 := hs.past
  have p2 := hr.past
  have p3 := hs.last
  have p4 := hr.last
  have p5 := hr.len
  by_cases h1 : k = 1
  · subst h1
    exact does_one B p q v vt va s r n w h g hB hp hq (by omega) (by omega) (by omega) (by omega)
  · by_cases h2 : k = 2
    · subst h2
      exact does_two B p q v vt va s r n w h g hB hp hq (by omega)
    · by_cases h3 : k = 3
      · subst h3
        exact does_three B p q v vt va s r n w h g hB hp hq (by omega) (by omega)
      · exact does_else B p q v vt va s r k n w h g hB h1 h2 h3
end Go.Proofs.Ytcmgdnhllkfjcaa.Reg
