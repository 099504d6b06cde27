/- Regis (chapter 21): the document's registry: what Waits, Oldest and End do. -/
import Derived.Test.YtcmgdnhllkfjcaaReg6
import Derived.Test.YtcmgdnhllkfjcaaReg8
namespace Go.Proofs.Ytcmgdnhllkfjcaa.Reg
open Go.RowKit Go.Proofs.YtcmgdnhllkfjcaaW.PrintWords Go.Proofs.YtcmgdnhllkfjcaaW.PrintLast Go.Proofs.YtcmgdnhllkfjcaaW.PrintMore Go.Proofs.Ytcmgdnhllkfjcaa.Objs Go.Proofs.Ytcmgdnhllkfjcaa.PRegisPlays
set_option linter.unusedVariables false
set_option linter.unusedSimpArgs false

theorem rd_map0 (l : List S55) (k : Nat) (h : k < l.length) : rd (l.map S55.f0) k = (rd_T55 l k).f0 := by
  simp [rd, rd_T55, List.getD_eq_getElem?_getD, h]
theorem rd_map1 (l : List S55) (k : Nat) (h : k < l.length) : rd (l.map S55.f1) k = (rd_T55 l k).f1 := by
  simp [rd, rd_T55, List.getD_eq_getElem?_getD, h]
theorem take_rd (l : List S55) (k : Nat) (h : k < l.length) : l.take (k + 1) = l.take k ++ [rd_T55 l k] := by
  rw [List.take_succ_eq_append_getElem h]; simp [rd_T55, h]
set_option maxRecDepth 100000 in
set_option maxHeartbeats 1600000 in
theorem rwaits_calls (B q : Nat) (vt va : Value) (l : List S55) (ep last : Int) (epoch : Int) (w : World) (h : Rq w B q vt va (l.map S55.f0) (l.map S55.f1) ep last) (hl : l.length ≤ 1000) :
    Calls Try.prog 27 #[.pointer (some ⟨q, 0, none⟩), .int .i64 epoch] w fun e w' => ∃ v0, e = .returned v0 ∧ Kd.R (Kd.int .i64) 3 w' w.heap.size (fun q => w.heap.size ≤ q) v0 (waits l epoch) ∧ Below w.heap.size w w' := by
  have c2 := h.at_.cell (j := 2) rfl
  have c3 := h.at_.cell (j := 3) rfl
  obtain ⟨A, c, hvt, hc, hC⟩ := Kd.R_reads h.rt
  obtain ⟨A', c', hva, hc', hC'⟩ := Kd.R_reads h.ra
  have e0 : (l.map S55.f0).length = l.length := List.length_map _
  have e1 : (l.map S55.f1).length = l.length := List.length_map _
  rw [e0] at hvt hc hC
  rw [e1] at hva hc' hC'
  subst hvt hva
  have H2 := Lib.hid c2
  have H3 := Lib.hid c3
  have HC := Lib.hid hC
  have HC' := Lib.hid hC'
  clear h hC hC' e0 e1 c2 c3
  go_enter Try.func27, Try.ntmps27
  go_wp2
  go_loopw [5, 6] (fun out i wl => ∃ k : Nat, k ≤ l.length ∧ i = .int .i64 k ∧ Hid (Kd.R (Kd.int .i64) 3 wl w.heap.size (fun q => w.heap.size ≤ q) out (waits (l.take k) epoch)) ∧ Hid (Below w.heap.size w wl)) (fun _ i _ => l.length - (intOf i).toNat)
  case atStart => exact ⟨0, Nat.zero_le _, rfl, Lib.hid (Kd.R_nil _ _ _ _ _), Lib.hid (Below.refl _ _)⟩
  case round =>
    obtain ⟨k, hk, rfl, HO, HB⟩ := hrel
    have d2 := pw_cell_below HB.out H2.out
    have d3 := pw_cell_below HB.out H3.out
    by_cases hlt : k < l.length
    · obtain ⟨ad, hA, k0⟩ := Kd.at_int (Kd.C_below HC.out HB.out) k (by omega) (by omega)
      obtain ⟨ad', hA', k1⟩ := Kd.at_int (Kd.C_below HC'.out HB.out) k (by omega) (by omega)
      subst hA hA'
      rw [rd_map0 l k hlt] at k0
      rw [rd_map1 l k hlt] at k1
      obtain ⟨x, hx⟩ : ∃ x, rd_T55 l k = x := ⟨_, rfl⟩
      have e2 := take_rd l k hlt
      rw [hx] at k0 k1 e2
      have e1 : (k : Int).toNat = k := by simp
      rw [e1] at k0 k1
      have E2 := Lib.hid e2
      clear e2 hx e1
      obtain ⟨xs, hxs⟩ : ∃ xs, waits (l.take k) epoch = xs := ⟨_, rfl⟩
      have hxl : xs.length ≤ 1000 := by rw [← hxs]; unfold waits; rw [List.length_map]; exact Nat.le_trans (List.length_filter_le _ _) (by simp; omega)
      rw [hxs] at HO
      have HX := Lib.hid hxs
      clear hxs
      by_cases hle : x.f1 ≤ epoch
      · have E3 := Lib.hid (show waits (l.take (k + 1)) epoch = xs ++ [x.f0] by rw [E2.out, waits_snoc, if_pos hle, HX.out])
        go_wp2_with (first | ((with_reducible refine gate_builtin (b := .append) (xs := #[.tmp 25, .tmp 33]) rfl ?_); at_builtin; refine Kd.R_append (Kd.int .i64) w.heap.size rfl (.tmp 25) (.tmp 33) 27 3 (.int .i64 0) 8 rfl Try.underlying27 info3' rfl (by decide) (by omega) u5 xs x.f0 [.int .i64 x.f0] (fun q => w.heap.size ≤ q) (fun _ => False) rfl ?aX ?aP (fun _ hk => hk.elim) ?aF ?aO HB.out ?aS ?aL ?_; (case aX => simp [Act.eval]); (case aP => exact rfl); (case aF => exact (fun k hk => Nat.le_trans HB.out.size hk)); (case aO => exact HO.out); (case aS => exact HB.out.size); (case aL => omega); intro v113 w9 ho hb hg hat; have HO9 := Lib.hid ho; have HB9 := Lib.hid hb; clear ho hb hg hat))
        go_roundw
        case rel => exact ⟨k + 1, by omega, by go_num, Lib.hid (by rw [E3.out]; exact HO9.out), HB9⟩
        case measure => simp [intOf]; omega
      · have E3 := Lib.hid (show waits (l.take (k + 1)) epoch = xs by rw [E2.out, waits_snoc, if_neg hle, HX.out, List.append_nil])
        go_wp2
        go_roundw
        case rel => exact ⟨k + 1, by omega, by go_num, Lib.hid (by rw [E3.out]; exact HO.out), HB⟩
        case measure => simp [intOf]; omega
    · obtain rfl : k = l.length := by omega
      rw [List.take_length] at HO
      go_wp2
      go_ret
      exact ⟨_, rfl, HO.out, HB.out⟩
theorem least_snoc (e : Int) (es : List Int) (a : Int) : least e (es ++ [a]) = if a < least e es then a else least e es := by
  unfold least
  rw [List.foldl_append]
  simp only [List.foldl_cons, List.foldl_nil]
  split <;> omega
attribute [local go_sem] min2_int
set_option maxRecDepth 100000 in
set_option maxHeartbeats 1600000 in
theorem roldest_calls (B q : Nat) (vt va : Value) (l : List S55) (ep last : Int) (w : World) (h : Rq w B q vt va (l.map S55.f0) (l.map S55.f1) ep last) :
    Calls Try.prog 29 #[.pointer (some ⟨q, 0, none⟩)] w fun e w' => e = .returned (.int .i64 (least ep (l.map S55.f1))) ∧ w' = w := by
  have c0 := h.at_.cell (j := 0) rfl
  have c3 := h.at_.cell (j := 3) rfl
  obtain ⟨A', c', hva, hc', hC'⟩ := Kd.R_reads h.ra
  have e1 : (l.map S55.f1).length = l.length := List.length_map _
  rw [e1] at hva hc' hC'
  subst hva
  have hn : l.length ≤ 9223372036854775807 := by have := hC'.2.1; exact this
  have HC' := Lib.hid hC'
  clear h hC' e1
  go_enter Try.func29, Try.ntmps29
  go_wp2
  go_loop [3, 4] (fun o i => ∃ k : Nat, k ≤ l.length ∧ i = .int .i64 k ∧ o = .int .i64 (least ep ((l.map S55.f1).take k))) (fun _ i => l.length - (intOf i).toNat)
  case atStart => exact ⟨0, Nat.zero_le _, rfl, rfl⟩
  case round =>
    obtain ⟨k, hk, rfl, rfl⟩ := hrel
    by_cases hlt : k < l.length
    · obtain ⟨ad', hA', k1⟩ := Kd.at_int HC'.out k (by omega) (by omega)
      subst hA'
      obtain ⟨x, hx⟩ : ∃ x, rd (l.map S55.f1) k = x := ⟨_, rfl⟩
      have e2 : (l.map S55.f1).take (k + 1) = (l.map S55.f1).take k ++ [x] := by rw [List.take_succ_eq_append_getElem (by simpa using hlt), ← hx]; simp [rd, hlt]
      rw [hx] at k1
      have e1 : (k : Int).toNat = k := by simp
      rw [e1] at k1
      obtain ⟨y, hy⟩ : ∃ y, least ep ((l.map S55.f1).take k) = y := ⟨_, rfl⟩
      have E3 := Lib.hid (show least ep ((l.map S55.f1).take (k + 1)) = if x < y then x else y by rw [e2, least_snoc, hy])
      rw [hy]
      clear e2 hx e1 hy
      by_cases hle : x < y
      · go_wp2
        go_round
        case rel => exact ⟨k + 1, by omega, by go_num, by rw [E3.out, if_pos hle]⟩
        case measure => simp [intOf]; omega
      · go_wp2
        go_round
        case rel => exact ⟨k + 1, by omega, by go_num, by rw [E3.out, if_neg hle]⟩
        case measure => simp [intOf]; omega
    · obtain rfl : k = l.length := by omega
      have HE := Lib.hid (show (l.map S55.f1).take l.length = l.map S55.f1 from List.take_of_length_le (by simp))
      rw [HE.out]
      go_wp2
      go_ret
      exact ⟨rfl, rfl⟩
theorem lit0 (W : World) (ok : Nat → Prop) (hok : ok W.heap.size) : Kd.R (Kd.int .i64) 3 (W.alloc (.cells #[] 3)) W.heap.size ok (.slice (some ⟨W.heap.size, 0, none⟩) 0 0) [] := by
  refine ⟨fun k hk => ?_, [], ?_, Reps.none _ _⟩
  · have : W.heap.size = k := by simpa [Value.ownBlock] using hk
    subst this
    exact hok
  · have h2 := World.ownsRow_lit (base := W.heap.size) (e := 3) (size := 1) W #[] 0 (Nat.le_refl _) (by simp [maxLen]) (by simp)
    have h3 : (W.alloc (.cells #[] 3)).ownsRow W.heap.size 3 1 (.slice (some ⟨W.heap.size, 0, none⟩) 0 0) 0 [] := by simpa using h2
    exact h3
theorem run_take27 (A : Option Addr) (n c k : Nat) (h : k ≤ n) (hn : n ≤ c) : ∀ W : World, (Instr.slice 27 (.slice A n c) none (some (.int .i64 (k : Int))) none).run Try.prog W = .ok (.slice A k c) W := by
  obtain ⟨i0, hi0, hz0, hz1, hz2⟩ := info_parts info3'
  obtain ⟨hcut, _, _⟩ := print_take_of (P := Try.prog) (Value.int .i64) (0 : Int) 27 3 .i64 Try.underlying27 hi0 hz1 A c (List.replicate n (0 : Int)) (k : Int) (by omega) (by simp; omega) (by simpa using hn)
  intro W
  have := hcut W
  simp only [List.length_replicate, List.take_replicate, Int.toNat_natCast] at this
  rwa [Nat.min_eq_left h] at this
theorem run_drop27 (A : Option Addr) (n c k : Nat) (h : k < n) (hn : n ≤ c) (hk : k ≤ 1000) : ∃ A' : Option Addr, (∀ W : World, (Instr.slice 27 (.slice A n c) (some (.int .i64 (wrap64 ((k : Int) + 1)))) none none).run Try.prog W = .ok (.slice A' (n - (k + 1)) (c - (k + 1))) W) ∧
    ∀ (w : World) (xs : List Int), Kd.C (Kd.int .i64) w A n xs → Kd.C (Kd.int .i64) w A' (n - (k + 1)) (xs.drop (k + 1)) := by
  obtain ⟨i0, hi0, hz0, hz1, hz2⟩ := info_parts info3'
  obtain ⟨A', hcut, hr⟩ := print_cut_of (P := Try.prog) (Value.int .i64) (0 : Int) 27 3 .i64 Try.underlying27 hi0 hz1 A n c (k + 1) (by omega)
  have hw : wrap64 ((k : Int) + 1) = ((k + 1 : Nat) : Int) := by unfold wrap64; omega
  exact ⟨A', fun W => by rw [hw]; exact hcut W, fun w xs hC => Kd.C_of_reads (h1 := fun _ => rfl) (hr w xs hn (Kd.reads_of_C hC))⟩
theorem C_take27 {w : World} {A : Option Addr} {n k : Nat} {xs : List Int} (h : Kd.C (Kd.int .i64) w A n xs) (hk : k ≤ n) : Kd.C (Kd.int .i64) w A k (xs.take k) :=
  Kd.C_of_reads (d := (0 : Int)) (h1 := fun _ => rfl) ((Kd.reads_of_C h).take_ k hk)
/-- A row of the registry put anew out of new blocks. -/
theorem Rq.fresh_put_t {w w1 : World} {B q : Nat} {vt va v1 : Value} {ts ts1 es : List Int} {ep last : Int} (h : Rq w B q vt va ts es ep last) (hB : B ≤ w.heap.size) (hb : Below w.heap.size w w1) (ho : Kd.R (Kd.int .i64) 3 w1 w.heap.size (fun k => w.heap.size ≤ k) v1 ts1) :
    Rq (w1.setCell ⟨q, 2, none⟩ v1) B q v1 va ts1 es ep last ∧ But (fun k => k = q) w (w1.setCell ⟨q, 2, none⟩ v1) := by
  have hq := h.at_.lt
  refine ⟨⟨(h.at_.below' hb).set 2 _, ?_, ?_⟩, (But.ofBelow (F := fun k => k = q) hb).trans (But.ofSet w1 q 2 v1) (fun k hk => .inl hk)⟩
  · refine Kd.R_far (Kd.R_mono (Kd.R_lower ho hB) (fun k hk => ⟨by omega, fun e => ?_⟩)) (p := ⟨q, 2, none⟩) (fun k hk => hk.1) _
    have := Kd.R_lt h.ra k e.symm
    omega
  · refine Kd.R_far (Kd.R_mono (Kd.R_below (Kd.R_bound h.ra) hb) (fun k hk => ⟨hk.1.1, fun e => ?_⟩)) (p := ⟨q, 2, none⟩) (fun k hk => hk.1) _
    have := ho.1 k e.symm
    have := hk.2.2.1
    omega
theorem Rq.fresh_put_a {w w1 : World} {B q : Nat} {vt va v1 : Value} {ts es es1 : List Int} {ep last : Int} (h : Rq w B q vt va ts es ep last) (hB : B ≤ w.heap.size) (hb : Below w.heap.size w w1) (ho : Kd.R (Kd.int .i64) 3 w1 w.heap.size (fun k => w.heap.size ≤ k) v1 es1) :
    Rq (w1.setCell ⟨q, 3, none⟩ v1) B q vt v1 ts es1 ep last ∧ But (fun k => k = q) w (w1.setCell ⟨q, 3, none⟩ v1) := by
  have hq := h.at_.lt
  refine ⟨⟨(h.at_.below' hb).set 3 _, ?_, ?_⟩, (But.ofBelow (F := fun k => k = q) hb).trans (But.ofSet w1 q 3 v1) (fun k hk => .inl hk)⟩
  · refine Kd.R_far (Kd.R_mono (Kd.R_below (Kd.R_bound h.rt) hb) (fun k hk => ⟨hk.1.1, fun e => ?_⟩)) (p := ⟨q, 3, none⟩) (fun k hk => hk.1) _
    have := ho.1 k e.symm
    have := hk.2.2.1
    omega
  · refine Kd.R_far (Kd.R_mono (Kd.R_lower ho hB) (fun k hk => ⟨by omega, fun e => ?_⟩)) (p := ⟨q, 3, none⟩) (fun k hk => hk.1) _
    have := Kd.R_lt h.rt k e.symm
    omega
end Go.Proofs.Ytcmgdnhllkfjcaa.Reg
