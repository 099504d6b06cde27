/- Regis (chapter 21): the registry's block and row, and what its reading methods do. -/
import Derived.Test.YtcmgdnhllkfjcaaPRegisPlaysx1
import Derived.Test.YtcmgdnhllkfjcaaObjs
import Derived.Lib.Hide
import Derived.LoopTactic
namespace Go.Proofs.Ytcmgdnhllkfjcaa.Reg
open Go.RowKit Go.Proofs.YtcmgdnhllkfjcaaW.PrintWords Go.Proofs.YtcmgdnhllkfjcaaW.PrintLast Go.Proofs.YtcmgdnhllkfjcaaW.PrintMore Go.Proofs.Ytcmgdnhllkfjcaa.Objs Go.Proofs.Ytcmgdnhllkfjcaa.PRegisPlays
set_option linter.unusedVariables false
set_option linter.unusedSimpArgs false

/-- The registry at block p: its row v reads as l. -/
structure Rg (w : World) (B p : Nat) (v : Value) (l : List S55) (past last : Int) : Prop where
  at_ : At w p [v, .int .i64 past, .int .i64 last] 40
  row : Kd.R k55 55 w B (fun q => q ≠ p) v l
theorem Rg.but {w w1 : World} {B p : Nat} {v : Value} {l : List S55} {past last : Int} {F : Nat → Prop} (h : Rg w B p v l past last) (hb : But F w w1) (hp : ¬ F p) (hv : ∀ k, v.ownBlock = some k → ¬ F k) : Rg w1 B p v l past last := by
  refine ⟨h.at_.but hb hp, ?_⟩
  have h1 := h.row
  refine ⟨h1.1, ?_⟩
  have := h1.2
  exact (Kd.R_step (ok := fun q => q ≠ p ∧ v.ownBlock = some q) (d := k55) (e := 55) (w := w) (w1 := w1) (base := B) (v := v) (xs := l) ⟨fun k hk => ⟨h1.1 k hk, hk⟩, h1.2.imp_ (fun _ _ hp => hp)⟩ (fun k hk hlt => hb.block k hlt (hv k hk.2))).2.imp_ (fun _ _ hp => hp)

theorem epoch_calls (B p : Nat) (v : Value) (l : List S55) (past last : Int) (w : World) (h : Rg w B p v l past last) (h0 : 0 ≤ past ∧ past ≤ 1000000) :
    Calls Try.prog 19 #[.pointer (some ⟨p, 0, none⟩)] w fun e w' => e = .returned (.int .i64 (past + 1)) ∧ w' = w := by
  have c1 := h.at_.cell (j := 1) rfl
  have HH := Lib.hid h
  clear h
  go_enter Try.func19, Try.ntmps19
  go_wp2
  go_ret
  exact ⟨rfl, rfl⟩
theorem epoch_nil (w : World) : Calls Try.prog 19 #[.pointer none] w fun e w' => e = .returned (.int .i64 0) ∧ w' = w := by
  go_enter Try.func19, Try.ntmps19
  go_wp2
  go_ret
  exact ⟨rfl, rfl⟩
theorem len_calls (B p : Nat) (v : Value) (l : List S55) (past last : Int) (w : World) (h : Rg w B p v l past last) :
    Calls Try.prog 17 #[.pointer (some ⟨p, 0, none⟩)] w fun e w' => e = .returned (.int .i64 l.length) ∧ w' = w := by
  have c0 := h.at_.cell (j := 0) rfl
  obtain ⟨A, c, rfl, hc, hC⟩ := Kd.R_reads h.row
  have hn : l.length ≤ 9223372036854775807 := hC.2.1
  clear h hC
  go_enter Try.func17, Try.ntmps17
  go_wp2
  go_ret
  exact ⟨rfl, rfl⟩
theorem len_nil (w : World) : Calls Try.prog 17 #[.pointer none] w fun e w' => e = .returned (.int .i64 0) ∧ w' = w := by
  go_enter Try.func17, Try.ntmps17
  go_wp2
  go_ret
  exact ⟨rfl, rfl⟩
/-- The oldest epoch. -/
def oldest (l : List S55) (past : Int) : Int := match l with | [] => past + 1 | x :: _ => x.f1
theorem oldest_calls (B p : Nat) (v : Value) (l : List S55) (past last : Int) (w : World) (h : Rg w B p v l past last) (h0 : 0 ≤ past ∧ past ≤ 1000000) :
    Calls Try.prog 18 #[.pointer (some ⟨p, 0, none⟩)] w fun e w' => e = .returned (.int .i64 (oldest l past)) ∧ w' = w := by
  have c0 := h.at_.cell (j := 0) rfl
  have c1 := h.at_.cell (j := 1) rfl
  have hE := epoch_calls B p v l past last w h h0
  obtain ⟨A, c, rfl, hc, hC⟩ := Kd.R_reads h.row
  have hn : l.length ≤ 9223372036854775807 := hC.2.1
  have hcap := hc
  cases l with
  | nil =>
    clear h hC
    have HE := Lib.hid hE
    clear hE
    go_enter Try.func18, Try.ntmps18
    go_wp2_with fail
    refine HE.out.mono ?_
    rintro e w' ⟨rfl, rfl⟩
    go_wp2
    go_ret
    exact ⟨rfl, rfl⟩
  | cons x l =>
    obtain ⟨ad, hA, k0, k1⟩ := at_T55 hC 0 (by omega) (by simp)
    subst hA
    have e0 : rd_T55 (x :: l) 0 = x := rfl
    rw [e0] at k0 k1
    have e1 : ad.add ((0 : Int).toNat * 2) = ad := by simp [Addr.add]
    rw [e1] at k0 k1
    clear h hC
    have HE := Lib.hid hE
    clear hE
    have hlen : (0 : Int) < ((x :: l).length : Int) := by simp
    generalize (x :: l).length = n at *
    go_enter Try.func18, Try.ntmps18
    go_wp2_with fail
    refine HE.out.mono ?_
    rintro e w' ⟨rfl, rfl⟩
    go_wp2
    go_ret
    exact ⟨rfl, rfl⟩
theorem oldest_nil (w : World) : Calls Try.prog 18 #[.pointer none] w fun e w' => e = .returned (.int .i64 0) ∧ w' = w := by
  go_enter Try.func18, Try.ntmps18
  go_wp2_with fail
  refine (epoch_nil w).mono ?_
  rintro e w' ⟨rfl, rfl⟩
  go_wp2
  go_ret
  exact ⟨rfl, rfl⟩
theorem advance_nil (w : World) : Calls Try.prog 11 #[.pointer none] w fun e w' => e = .returned (.int .i64 0) ∧ w' = w := by
  go_enter Try.func11, Try.ntmps11
  go_wp2
  go_ret
  exact ⟨rfl, rfl⟩
theorem advance_calls (B p : Nat) (v : Value) (l : List S55) (past last : Int) (w : World) (h : Rg w B p v l past last) (h0 : 0 ≤ past ∧ past ≤ 1000000) :
    Calls Try.prog 11 #[.pointer (some ⟨p, 0, none⟩)] w fun e w' => e = .returned (.int .i64 (past + 1)) ∧ Rg w' B p v l (past + 1) last ∧ But (fun k => k = p) w w' := by
  have c1 := h.at_.cell (j := 1) rfl
  have f1 := h.at_.frozen 1
  have c2 := World.cell?_setCell_same (w := w) (a := ⟨p, 1, none⟩) (v := .int .i64 (past + 1)) c1
  have HH := Lib.hid h
  clear h
  go_enter Try.func11, Try.ntmps11
  go_wp2
  go_ret
  refine ⟨rfl, ⟨HH.out.at_.set 1 _, Kd.R_far HH.out.row (p := ⟨p, 1, none⟩) (fun q hq => hq) _⟩, But.ofSet w p 1 _⟩
/-- A new one. -/
theorem new_calls (w : World) : Calls Try.prog 9 #[] w fun e w' => e = .returned (.pointer (some ⟨w.heap.size, 0, none⟩)) ∧ w' = w.alloc (.cells #[.slice none 0 0, .int .i64 0, .int .i64 0] 40) := by
  go_enter Try.func9, Try.ntmps9
  go_wp2
  go_ret
  exact ⟨rfl, rfl⟩
theorem Rg.new (w : World) : Rg (w.alloc (.cells #[.slice none 0 0, .int .i64 0, .int .i64 0] 40)) w.heap.size w.heap.size (.slice none 0 0) [] 0 0 :=
  ⟨At.new w [.slice none 0 0, .int .i64 0, .int .i64 0] 40, Kd.R_nil _ _ _ _ _⟩
/-- What waits. -/
def waits (l : List S55) (epoch : Int) : List Int := (l.filter fun x => decide (x.f1 ≤ epoch)).map S55.f0
theorem waits_snoc (l : List S55) (epoch : Int) (x : S55) : waits (l ++ [x]) epoch = waits l epoch ++ (if x.f1 ≤ epoch then [x.f0] else []) := by
  unfold waits
  rw [List.filter_append, List.map_append]
  by_cases h : x.f1 ≤ epoch <;> simp [h]
theorem waits_nil (epoch : Int) (w : World) : Calls Try.prog 12 #[.pointer none, .int .i64 epoch] w fun e w' => e = .returned (.slice none 0 0) ∧ w' = w := by
  go_enter Try.func12, Try.ntmps12
  go_wp2
  go_ret
  exact ⟨rfl, rfl⟩
theorem info3' : (Try.prog.info? 3).map (fun i => (i.zero, i.size, i.bytes)) = some (some (.int .i64 0), 1, 8) := by kernel_rfl
set_option maxRecDepth 100000 in
set_option maxHeartbeats 1600000 in
theorem waits_calls (B p : Nat) (v : Value) (l : List S55) (past last : Int) (epoch : Int) (w : World) (h : Rg w B p v l past last) (hl : l.length ≤ 1000) :
    Calls Try.prog 12 #[.pointer (some ⟨p, 0, none⟩), .int .i64 epoch] w fun e w' => ∃ v0, e = .returned v0 ∧ Kd.R (Kd.int .i64) 3 w' w.heap.size (fun q => w.heap.size ≤ q) v0 (waits l epoch) ∧ Below w.heap.size w w' := by
  have c0 := h.at_.cell (j := 0) rfl
  obtain ⟨A, c, rfl, hc, hC⟩ := Kd.R_reads h.row
  have HC := Lib.hid hC
  clear h hC
  go_enter Try.func12, Try.ntmps12
  go_wp2
  go_loopw [4, 14] (fun out i wl => ∃ k : Nat, k ≤ l.length ∧ i = .int .i64 k ∧ Hid (Kd.R (Kd.int .i64) 3 wl w.heap.size (fun q => w.heap.size ≤ q) out (waits (l.take k) epoch)) ∧ Hid (Below w.heap.size w wl)) (fun _ i _ => l.length - (intOf i).toNat)
  case atStart => exact ⟨0, Nat.zero_le _, rfl, Lib.hid (Kd.R_nil _ _ _ _ _), Lib.hid (Below.refl _ _)⟩
  case round =>
    obtain ⟨k, hk, rfl, HO, HB⟩ := hrel
    by_cases hlt : k < l.length
    · obtain ⟨ad, hA, k0, k1⟩ := at_T55 (Kd.C_below HC.out HB.out) k (by omega) (by omega)
      subst hA
      obtain ⟨x, hx⟩ : ∃ x, rd_T55 l k = x := ⟨_, rfl⟩
      rw [hx] at k0 k1
      have e2 : l.take (k + 1) = l.take k ++ [x] := by rw [List.take_succ_eq_append_getElem hlt, ← hx]; simp [rd_T55, hlt]
      have e1 : ((k : Int).toNat * 2) = k * 2 := by simp
      rw [e1] at k0 k1
      have E2 := Lib.hid e2
      clear e2 hx e1
      obtain ⟨xs, hxs⟩ : ∃ xs, waits (l.take k) epoch = xs := ⟨_, rfl⟩
      have hxl : xs.length ≤ 1000 := by rw [← hxs]; unfold waits; rw [List.length_map]; exact Nat.le_trans (List.length_filter_le _ _) (by simp; omega)
      rw [hxs] at HO
      have HX := Lib.hid hxs
      clear hxs
      by_cases hle : x.f1 ≤ epoch
      · have E3 := Lib.hid (show waits (l.take (k + 1)) epoch = xs ++ [x.f0] by rw [E2.out, waits_snoc, if_pos hle, HX.out])
        go_wp2_with (first | ((with_reducible refine gate_builtin (b := .append) (xs := #[.tmp 22, .tmp 25]) rfl ?_); at_builtin; refine Kd.R_append (Kd.int .i64) w.heap.size rfl (.tmp 22) (.tmp 25) 27 3 (.int .i64 0) 8 rfl Try.underlying27 info3' rfl (by decide) (by omega) u4 xs x.f0 [.int .i64 x.f0] (fun q => w.heap.size ≤ q) (fun _ => False) rfl ?aX ?aP (fun _ hk => hk.elim) ?aF ?aO (below_alloc HB.out _) ?aS ?aL ?_; (case aX => simp [Act.eval]); (case aP => exact rfl); (case aF => exact (fun k hk => Nat.le_trans HB.out.size (Nat.le_trans (by simp) hk))); (case aO => exact Kd.R_alloc HO.out _); (case aS => exact Nat.le_trans HB.out.size (by simp)); (case aL => omega); intro v113 w9 ho hb hg hat; have HO9 := Lib.hid ho; have HB9 := Lib.hid hb; clear ho hb hg hat))
        go_roundw
        case rel => exact ⟨k + 1, by omega, by go_num, Lib.hid (by rw [E3.out]; exact HO9.out), HB9⟩
        case measure => simp [intOf]; omega
      · have E3 := Lib.hid (show waits (l.take (k + 1)) epoch = xs by rw [E2.out, waits_snoc, if_neg hle, HX.out, List.append_nil])
        go_wp2
        go_roundw
        case rel => exact ⟨k + 1, by omega, by go_num, Lib.hid (by rw [E3.out]; exact Kd.R_alloc HO.out _), Lib.hid (below_alloc HB.out _)⟩
        case measure => simp [intOf]; omega
    · obtain rfl : k = l.length := by omega
      rw [List.take_length] at HO
      go_wp2
      go_ret
      exact ⟨_, rfl, HO.out, HB.out⟩
/-- Is an epoch over, with nothing that waits? -/
def ready (l : List S55) (past epoch : Int) : Bool := decide (epoch < past + 1) && decide ((waits l epoch).length = 0)
theorem ready_nil (epoch : Int) (w : World) : Calls Try.prog 13 #[.pointer none, .int .i64 epoch] w fun e w' => e = .returned (.bool false) ∧ w' = w := by
  go_enter Try.func13, Try.ntmps13
  go_wp2
  go_ret
  exact ⟨rfl, rfl⟩
set_option maxRecDepth 100000 in
set_option maxHeartbeats 1600000 in
theorem ready_calls (B p : Nat) (v : Value) (l : List S55) (past last : Int) (epoch : Int) (w : World) (h : Rg w B p v l past last) (hl : l.length ≤ 1000) (h0 : 0 ≤ past ∧ past ≤ 1000000) :
    Calls Try.prog 13 #[.pointer (some ⟨p, 0, none⟩), .int .i64 epoch] w fun e w' => e = .returned (.bool (ready l past epoch)) ∧ Below w.heap.size w w' := by
  have hE := Lib.hid (epoch_calls B p v l past last w h h0)
  have hW := Lib.hid (waits_calls B p v l past last epoch w h hl)
  clear h
  by_cases h1 : epoch < past + 1
  · obtain ⟨n, hn⟩ : ∃ n, n = (waits l epoch).length := ⟨_, rfl⟩
    have hr : Hid (ready l past epoch = decide (n = 0)) := Lib.hid (by unfold ready; rw [decide_eq_true h1, hn, Bool.true_and])
    have HN := Lib.hid hn
    clear hn
    go_enter Try.func13, Try.ntmps13
    go_wp2_with fail
    refine hE.out.mono ?_
    rintro e w' ⟨rfl, rfl⟩
    go_wp2_with fail
    refine hW.out.mono ?_
    rintro e w1 ⟨v0, rfl, hv, hb⟩
    obtain ⟨A, c, rfl, hcap, hC⟩ := Kd.R_reads hv
    rw [← HN.out] at *
    have HB := Lib.hid hb
    clear hb hv hC
    by_cases hz : n = 0
    · subst hz
      go_wp2
      go_ret
      exact ⟨by rw [hr.out]; rfl, HB.out⟩
    · have hz2 : ¬ ((n : Int) = 0) := by omega
      go_wp2
      go_ret
      exact ⟨by rw [hr.out]; simp [hz], HB.out⟩
  · have hr : Hid (ready l past epoch = false) := Lib.hid (by unfold ready; rw [decide_eq_false h1, Bool.false_and])
    go_enter Try.func13, Try.ntmps13
    go_wp2_with fail
    refine hE.out.mono ?_
    rintro e w' ⟨rfl, rfl⟩
    go_wp2
    go_ret
    exact ⟨by rw [hr.out]; rfl, Below.refl _ _⟩
end Go.Proofs.Ytcmgdnhllkfjcaa.Reg
