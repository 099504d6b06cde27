/- RegisLimit (chapter 21): the walk of the law. Proved for all rows of bools, no further condition. -/
import Derived.Test.YtcmgdnhllkfjcaaReg16
import Derived.Test.YtcmgdnhllkfjcaaBools
namespace Go.Proofs.Ytcmgdnhllkfjcaa.Reg
open Go.RowKit Go.Proofs.YtcmgdnhllkfjcaaW.PrintWords Go.Proofs.YtcmgdnhllkfjcaaW.PrintLast Go.Proofs.YtcmgdnhllkfjcaaW.PrintMore Go.Proofs.Ytcmgdnhllkfjcaa.Objs Go.Proofs.Ytcmgdnhllkfjcaa.PRegisPlays
set_option linter.unusedVariables false
set_option linter.unusedSimpArgs false

/-- 'xs[1:]' of a queue. -/
theorem queue_cut (A : Option Addr) (n c : Nat) (h : 1 ≤ n) (hn : n ≤ c) : ∃ A' : Option Addr, (∀ W : World, (Instr.slice 27 (.slice A n c) (some (.int .i64 1)) none none).run Try.prog W = .ok (.slice A' (n - 1) (c - 1)) W) ∧
    ∀ (w : World) (B : Nat) (ok : Nat → Prop) (xs : List Int), xs.length = n → Kd.Q (Kd.int .i64) 3 w B ok (.slice A n c) xs → Kd.Q (Kd.int .i64) 3 w B ok (.slice A' (n - 1) (c - 1)) (xs.drop 1) := by
  obtain ⟨i0, hi0, hz0, hz1, hz2⟩ := info_parts info3'
  refine ⟨if c = 1 then A else A.map (·.add 1), fun W => ?_, fun w B ok xs hx hq => ?_⟩
  · have hel : Try.prog.elem 27 = 3 := by simp [Program.elem, Try.underlying27]
    have hu : Try.prog.underlying 27 = some (.slice (Try.prog.elem 27)) := by rw [hel]; exact Try.underlying27
    have := run_slice_l W 27 A n c hu .i64 (1 : Int) (by decide) (by omega)
    rw [this, hel]
    simp [sizeOf, typeInfo, hi0, hz1, sliced, Result.andThen]
  · exact Kd.Q_drop hq (by omega)
/-- A queue of numbers stays where the registry is written. -/
theorem queue_but {w w1 : World} {B p : Nat} {v vo : Value} {s : St} {ok : Nat → Prop} {xs : List Int} (h : Rp w B p v s) (hb : But (fun k => k = p ∨ some k = v.ownBlock) w w1) (hq : Kd.Q (Kd.int .i64) 3 w B ok vo xs) : Kd.Q (Kd.int .i64) 3 w1 B ok vo xs := by
  obtain ⟨i0, o0⟩ := Kd.R_own h.row
  refine Kd.Q_mono (Kd.Q_step (ok := fun k => ok k ∧ vo.ownBlock = some k) ?_ (fun k hk hlt => hb.block k hlt ?_)) (fun k hk => hk.1)
  · obtain ⟨h0, inner, ho, hr⟩ := hq
    exact ⟨fun k hk => ⟨h0 k hk, hk⟩, inner, ho, hr.imp_ (fun _ _ hp => hp)⟩
  · obtain ⟨cells, hc⟩ := Kd.Q_typed hq k hk.2
    rintro (rfl | e)
    · exact blk_ne hc h.at_ (by decide) rfl
    · exact own_ne o0 hc (by decide) e
theorem place_head (x : S55) (l : List S55) : place (x :: l) x.f0 = some 0 := by
  refine place_some (by simp) rfl (fun j hj => absurd hj (Nat.not_lt_zero _))
theorem ended_head (x : S55) (l : List S55) : ended (x :: l) x.f0 = l := by unfold ended; rw [place_head]; rfl
theorem place_gone {x : S55} {l : List S55} (h : ∀ y ∈ l, x.f0 < y.f0) : place l x.f0 = none := by
  refine place_none (fun j hj => ?_)
  have := h (rd_T55 l j) (by simp [rd_T55, List.getD_eq_getElem?_getD, hj])
  omega
theorem ended_gone {x : S55} {l : List S55} (h : ∀ y ∈ l, x.f0 < y.f0) : ended l x.f0 = l := by unfold ended; rw [place_gone h]
def LimAt (w0 : World) (B p n : Nat) (last opn i : Value) (w : World) : Prop := ∃ (k : Nat) (s : St) (v : Value), k ≤ n ∧ i = .int .i64 k ∧ last = .int .i64 s.last ∧ s.past = 0 ∧ Rp w B p v s ∧ s.Ok k ∧ Kd.Q (Kd.int .i64) 3 w B (fun _ => True) opn (s.l.map S55.f0) ∧ Below B w0 w
set_option maxRecDepth 100000 in
set_option maxHeartbeats 6400000 in
theorem lim_calls (A : Option Addr) (c : Nat) (l : List Bool) (w : World) (hC : Kd.C Kd.bool w A l.length l) (hc : l.length ≤ c) :
    Calls Try.prog 4 #[.slice A l.length c] w fun e w' => e = .returned (.bool true) ∧ Below w.heap.size w w' := by
  have hn : l.length ≤ 9223372036854775807 := hC.2.1
  have HC := Lib.hid hC
  clear hC
  by_cases hbig : 200 < l.length
  · go_enter Try.func4, Try.ntmps4
    go_wp2_with fail
    refine (awake_calls w).mono ?_
    rintro e w' ⟨rfl, hb⟩
    have HB := Lib.hid hb
    clear hb
    go_wp2
    go_ret
    exact ⟨rfl, HB.out⟩
  · have HN := Lib.hid (show LimAt w w.heap.size w.heap.size l.length (.int .i64 0) (.slice none 0 0) (.int .i64 (0 : Nat)) (w.alloc (.cells #[.slice none 0 0, .int .i64 0, .int .i64 0] 40)) from
      ⟨0, ⟨[], 0, 0⟩, _, Nat.zero_le _, rfl, rfl, rfl, Rg.new w, St.Ok.new, Kd.Q_nil _ _ _ _ _, below_alloc (Below.refl _ _) _⟩)
    have hif : Try.prog.underlying 42 = some (.interface (Try.prog.methodsAt 42)) := by rw [Try.underlying42]; rfl
    have n1 := fun (W : World) => run_eql_nil_nil (P := Try.prog) (w := W) 42 hif
    have n2 := fun (W : World) => run_neq_nil_nil (P := Try.prog) (w := W) 42 hif
    have n3 := fun (W : World) (x : Value) => run_eql_held_nil (P := Try.prog) (w := W) 42 56 x hif
    have n4 := fun (W : World) (x : Value) => run_neq_held_nil (P := Try.prog) (w := W) 42 56 x hif
    clear hif
    go_enter Try.func4, Try.ntmps4
    go_wp2
    go_loopw [4, 5, 6] (fun last opn i wl => LimAt w w.heap.size w.heap.size l.length last opn i wl) (fun _ _ i _ => l.length - (intOf i).toNat)
    case atStart => exact HN.out
    case round =>
      obtain ⟨k, s, v, hk, rfl, rfl, hp0, hp, hs, hq, hb⟩ := hrel
      obtain ⟨Aq, cq, rfl, hcq, hCq⟩ := Kd.Q_reads hq
      have em : (s.l.map S55.f0).length = s.l.length := List.length_map _
      rw [em] at hcq hCq hq ⊢
      have HP := Lib.hid hp
      have HS := Lib.hid hs
      have HB := Lib.hid hb
      have HQ := Lib.hid hq
      have HCQ := Lib.hid hCq
      have HP0 := Lib.hid hp0
      have hsz := hb.size
      have hlen := hs.len
      have hla := hs.last
      clear hp hs hb hq hp0 hCq em
      by_cases hlt : k < l.length
      · obtain ⟨ad, hA, k0⟩ := Kd.at_bool (Kd.C_below HC.out HB.out) k (by omega) (by omega)
        subst hA
        have e1 : (k : Int).toNat = k := by simp
        rw [e1] at k0
        obtain ⟨b, hbb⟩ : ∃ b, rdOf false l k = b := ⟨_, rfl⟩
        rw [hbb] at k0
        clear hbb e1
        by_cases hpop : b = true ∧ 0 < s.l.length
        · obtain ⟨hb1, hpos⟩ := hpop
          subst hb1
          obtain ⟨ls, past, last⟩ := s
          cases ls with
          | nil => exact absurd hpos (by simp)
          | cons x rest =>
            have hgone : ∀ y ∈ rest, x.f0 < y.f0 := fun y hy => ((List.pairwise_cons.1 HS.out.rise).1 y hy).1
            have HG := Lib.hid hgone
            obtain ⟨adq, hAq, q0⟩ := Kd.at_int HCQ.out 0 (by omega) (by simp)
            have e0 : rd ((x :: rest).map S55.f0) 0 = x.f0 := rfl
            have ea : adq.add ((0 : Int).toNat) = adq := by simp [Addr.add]
            rw [e0, ea] at q0
            obtain ⟨A', hcut, hqc⟩ := queue_cut Aq (x :: rest).length cq (by simp) hcq
            have HQC := Lib.hid hqc
            clear hgone e0 ea hqc
            obtain ⟨m, hm⟩ : ∃ m, (x :: rest).length = m := ⟨_, rfl⟩
            have hm1 : 1 ≤ m := by rw [← hm]; simp
            have hm2 : m ≤ 64 := by rw [← hm]; exact hlen
            have HM := Lib.hid hm
            rw [hm] at hcut hcq ⊢
            simp only [hm] at HQ HCQ
            clear hm hlen hpos
            subst hAq
            go_wp2_with fail
            refine (end_calls w.heap.size w.heap.size v (x :: rest) past last x.f0 wr HP.out).mono ?_
            rintro e w1 ⟨he, v1, hg1, hb1, _⟩
            have he2 : e = .returned .nilIface := by rw [he]; unfold endV; rw [place_head]
            subst he2
            rw [ended_head] at hg1
            have HP1 := Lib.hid (show Rp w1 w.heap.size w.heap.size v1 ⟨rest, past, last⟩ from hg1)
            have HQ1 := Lib.hid (queue_but HP.out hb1 HQ.out)
            have HB1 := Lib.hid (HB.out.trans (hb1.below hsz (Rp.base HP.out (Nat.le_refl _))))
            have q1 : w1.cell? adq = some (.int .i64 x.f0) := by
              obtain ⟨_, _, hC1⟩ := Kd.Q_reads' HQ1.out
              obtain ⟨ad2, hA2, q2⟩ := Kd.at_int hC1 0 (by omega) (by simp)
              obtain rfl := Option.some.inj hA2
              have e0 : rd ((x :: rest).map S55.f0) 0 = x.f0 := rfl
              have ea : adq.add ((0 : Int).toNat) = adq := by simp [Addr.add]
              rwa [e0, ea] at q2
            clear he hg1 hb1 q0 k0
            go_wp2_with fail
            refine (end_calls w.heap.size w.heap.size v1 rest past last x.f0 w1 HP1.out).mono ?_
            rintro e w2 ⟨he, v2, hg2, hb2, _⟩
            have he2 : e = .returned (.iface 56 (.int .i64 1)) := by rw [he]; unfold endV; rw [place_gone HG.out]
            subst he2
            rw [ended_gone HG.out] at hg2
            have hfin : LimAt w w.heap.size w.heap.size l.length (.int .i64 last) (.slice A' (m - 1) (cq - 1)) (.int .i64 ((k : Int) + 1)) w2 := by
              refine ⟨k + 1, ⟨rest, past, last⟩, v2, by omega, by go_num, rfl, HP0.out, hg2, ?_, ?_, HB1.out.trans (hb2.below HB1.out.size (Rp.base HP1.out (Nat.le_refl _)))⟩
              · have h1 := HS.out.fin x.f0
                unfold St.fin at h1
                rw [ended_head] at h1
                exact h1
              · have h1 := queue_but HP1.out hb2 HQ1.out
                have h2 := HQC.out _ _ _ ((x :: rest).map S55.f0) (by rw [List.length_map]) (by rw [HM.out]; exact h1)
                rw [HM.out] at h2
                exact h2
            have HF := Lib.hid hfin
            clear he hg2 hb2 hfin q1
            go_wp2
            go_roundw
            case rel => exact HF.out
            case measure => simp [intOf]; omega
        · have hpb := hpop
          have HPOP := Lib.hid hpb
          clear hpop hpb
          have hps := HS.out.past
          by_cases hroom : s.l.length < 64
          · have hbegin : ∀ w0, w0 = wr → Calls Try.prog 15 #[.pointer (some ⟨w.heap.size, 0, none⟩)] w0 fun e w' => e = .returned (.tuple #[.int .i64 (s.last + 1), .int .i64 1, .nilIface]) ∧ ∃ v', Rp w' w.heap.size w.heap.size v' s.bgn ∧ But (fun k => k = w.heap.size ∨ some k = v.ownBlock) wr w' := by
              rintro w0 rfl
              refine (begin_all w.heap.size w.heap.size v s w0 HP.out hsz (by omega) (by omega)).mono ?_
              rintro e w' ⟨he, h2⟩
              refine ⟨?_, h2⟩
              rw [he]
              unfold bTk bEp bEr
              rw [if_pos hroom, if_pos hroom, if_pos hroom, HP0.out]; rfl
            have HBG := Lib.hid (hbegin wr rfl)
            clear hbegin
            have hsteps : ∀ (w2 : World), True := fun _ => trivial
            clear hsteps
            have hb0 : b = false ∨ (b = true ∧ s.l.length = 0) := by
              cases b with
              | false => exact .inl rfl
              | true => exact .inr ⟨rfl, Nat.eq_zero_of_not_pos (fun h => HPOP.out ⟨rfl, h⟩)⟩
            have HF : ∀ (w1 w2 : World) (v1 vq : Value), Rp w1 w.heap.size w.heap.size v1 s.bgn → Below w.heap.size w w1 → Below w.heap.size w w2 → w1.grownBy w2 (Value.slice Aq s.l.length cq).ownBlock → Kd.Q (Kd.int .i64) 3 w2 w.heap.size (fun _ => True) vq (s.l.map S55.f0 ++ [s.last + 1]) → Kd.Q (Kd.int .i64) 3 w1 w.heap.size (fun _ => True) (.slice Aq s.l.length cq) (s.l.map S55.f0) →
                LimAt w w.heap.size w.heap.size l.length (.int .i64 (s.last + 1)) vq (.int .i64 ((k : Int) + 1)) w2 := by
              intro w1 w2 v1 vq hp1 hb1 hb2 hg hq2 hq1
              have hbg : s.bgn = ⟨s.l ++ [⟨s.last + 1, s.past + 1⟩], s.past, s.last + 1⟩ := by unfold St.bgn; rw [if_pos hroom]
              obtain ⟨i0, o0⟩ := Kd.R_own hp1.row
              have ht := Kd.Q_typed hq1
              have hne : ∀ k', k' = w.heap.size ∨ some k' = v1.ownBlock → ¬ (some k' = (Value.slice Aq s.l.length cq).ownBlock) := by
                rintro k' (rfl | e) e2
                · obtain ⟨cells, hcc⟩ := ht _ e2.symm
                  exact blk_ne hcc hp1.at_ (by decide) rfl
                · obtain ⟨cells, hcc⟩ := ht _ e2.symm
                  exact own_ne o0 hcc (by decide) e
              refine ⟨k + 1, s.bgn, v1, by omega, by go_num, by rw [hbg], by rw [hbg]; exact HP0.out, Rg.but hp1 (But.ofGrown hg) (fun h => hne _ (.inl rfl) h) (fun k' hk' h => hne _ (.inr hk'.symm) h), HS.out.bgn, ?_, hb2⟩
              rw [hbg]
              rw [List.map_append]
              exact hq2
            have HFH := Lib.hid HF
            clear HF
            rcases hb0 with rfl | ⟨rfl, hl0⟩
            · go_wp2_with fail
              refine (HBG.out).mono ?_
              rintro e w1 ⟨rfl, v1, hp1, hb1⟩
              have HP1 := Lib.hid hp1
              have HQ1 := Lib.hid (queue_but HP.out hb1 HQ.out)
              have HB1 := Lib.hid (HB.out.trans (hb1.below hsz (Rp.base HP.out (Nat.le_refl _))))
              clear hp1 hb1
              have hll : ((s.l.length : Int) < 64) := by omega
              go_wp2_with (first | ((with_reducible refine gate_builtin (b := .append) (xs := #[.tmp 82, .tmp 84]) rfl ?_); at_builtin; refine Kd.Q_append (Kd.int .i64) (w0 := w) w.heap.size rfl (.tmp 82) (.tmp 84) 27 3 (.int .i64 0) 8 rfl Try.underlying27 info3' rfl (by decide) (by omega) (.slice Aq s.l.length cq) (s.l.map S55.f0) (s.last + 1) [.int .i64 (s.last + 1)] (fun _ => True) (fun _ => False) rfl ?aX ?aP (fun _ hk => hk.elim) (fun _ _ => trivial) HQ1.out HB1.out HB1.out.size ?aL ?_; (case aX => simp [Act.eval]); (case aP => exact rfl); (case aL => (rw [List.length_map]; omega)); intro vq w9 hq9 hb9 hg9 _; have HQ9 := Lib.hid hq9; have HB9 := Lib.hid hb9; have HG9 := Lib.hid hg9; clear hq9 hb9 hg9))
              go_roundw
              case rel => exact HFH.out w1 w9 v1 vq HP1.out HB1.out HB9.out HG9.out HQ9.out HQ1.out
              case measure => simp [intOf]; omega
            · have hz : ¬ (0 : Int) < (s.l.length : Int) := by omega
              clear hl0
              go_wp2_with fail
              refine (HBG.out).mono ?_
              rintro e w1 ⟨rfl, v1, hp1, hb1⟩
              have HP1 := Lib.hid hp1
              have HQ1 := Lib.hid (queue_but HP.out hb1 HQ.out)
              have HB1 := Lib.hid (HB.out.trans (hb1.below hsz (Rp.base HP.out (Nat.le_refl _))))
              clear hp1 hb1
              have hll : ((s.l.length : Int) < 64) := by omega
              go_wp2_with (first | ((with_reducible refine gate_builtin (b := .append) (xs := #[.tmp 82, .tmp 84]) rfl ?_); at_builtin; refine Kd.Q_append (Kd.int .i64) (w0 := w) w.heap.size rfl (.tmp 82) (.tmp 84) 27 3 (.int .i64 0) 8 rfl Try.underlying27 info3' rfl (by decide) (by omega) (.slice Aq s.l.length cq) (s.l.map S55.f0) (s.last + 1) [.int .i64 (s.last + 1)] (fun _ => True) (fun _ => False) rfl ?aX ?aP (fun _ hk => hk.elim) (fun _ _ => trivial) HQ1.out HB1.out HB1.out.size ?aL ?_; (case aX => simp [Act.eval]); (case aP => exact rfl); (case aL => (rw [List.length_map]; omega)); intro vq w9 hq9 hb9 hg9 _; have HQ9 := Lib.hid hq9; have HB9 := Lib.hid hb9; have HG9 := Lib.hid hg9; clear hq9 hb9 hg9))
              go_roundw
              case rel => exact HFH.out w1 w9 v1 vq HP1.out HB1.out HB9.out HG9.out HQ9.out HQ1.out
              case measure => simp [intOf]; omega
          · have hb0 : b = false := by
              cases b with
              | false => rfl
              | true => exact absurd ⟨rfl, by omega⟩ HPOP.out
            subst hb0
            have HF : LimAt w w.heap.size w.heap.size l.length (.int .i64 s.last) (.slice Aq s.l.length cq) (.int .i64 ((k : Int) + 1)) wr :=
              ⟨k + 1, s, v, by omega, by go_num, rfl, HP0.out, HP.out, HS.out.more (by omega), HQ.out, HB.out⟩
            have HFH := Lib.hid HF
            clear HF
            go_wp2_with fail
            refine (begin_full w.heap.size w.heap.size v s.l s.past s.last wr HP.out (by omega)).mono ?_
            rintro e w' ⟨rfl, hw'⟩
            subst hw'
            have hll : ¬ ((s.l.length : Int) < 64) := by omega
            go_wp2_with fail
            refine (code_num 16 _).mono ?_
            rintro e w' ⟨rfl, hw'⟩
            subst hw'
            have h16 : codeOf 16 = 16 := by decide
            rw [h16]
            clear h16
            go_wp2
            go_roundw
            case rel => exact HFH.out
            case measure => simp [intOf]; omega
      · obtain rfl : k = l.length := by omega
        go_wp2_with fail
        refine (len_calls w.heap.size w.heap.size v s.l s.past s.last wr HP.out).mono ?_
        rintro e w' ⟨rfl, hw'⟩
        subst hw'
        go_wp2_with fail
        refine (awake_calls _).mono ?_
        rintro e w2 ⟨rfl, hb2⟩
        have HB2 := Lib.hid (HB.out.trans (hb2.mono HB.out.size))
        clear hb2
        go_wp2
        go_ret
        exact ⟨rfl, HB2.out⟩
end Go.Proofs.Ytcmgdnhllkfjcaa.Reg
