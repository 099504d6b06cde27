/- RegisOldest (chapter 21): the walk of the law. Proved for all steps, no further condition. -/
import Derived.Test.YtcmgdnhllkfjcaaReg13
namespace Go.Proofs.Ytcmgdnhllkfjcaa.Reg
open Go.RowKit Go.Proofs.YtcmgdnhllkfjcaaW.PrintWords Go.Proofs.YtcmgdnhllkfjcaaW.PrintLast Go.Proofs.YtcmgdnhllkfjcaaW.PrintMore Go.Proofs.Ytcmgdnhllkfjcaa.Objs Go.Proofs.Ytcmgdnhllkfjcaa.PRegisPlays
set_option linter.unusedVariables false
set_option linter.unusedSimpArgs false

def OldAt (w0 : World) (B p n : Nat) (was i : Value) (w : World) : Prop := ∃ (k : Nat) (u : Int) (v : Value) (s : St), k ≤ n ∧ i = .int .i64 k ∧ was = .int .i64 u ∧ u ≤ oldest s.l s.past ∧ Rp w B p v s ∧ s.Ok k ∧ Below B w0 w
set_option maxRecDepth 100000 in
set_option maxHeartbeats 3200000 in
theorem old_calls (A : Option Addr) (c : Nat) (l : List S55) (w : World) (hC : Kd.C k55 w A l.length l) (hc : l.length ≤ c) :
    Calls Try.prog 5 #[.slice A l.length c] w fun e w' => e = .returned (.bool true) ∧ Below w.heap.size w w' := by
  have hn : l.length ≤ 9223372036854775807 := hC.2.1
  have HC := Lib.hid hC
  clear hC
  by_cases hbig : 150 < l.length
  · go_enter Try.func5, Try.ntmps5
    go_wp2_with fail
    refine (awake_calls w).mono ?_
    rintro e w' ⟨rfl, hb⟩
    have HB := Lib.hid hb
    clear hb
    go_wp2
    go_ret
    exact ⟨rfl, HB.out⟩
  · have HN := Lib.hid (show OldAt w w.heap.size w.heap.size l.length (.int .i64 0) (.int .i64 (0 : Nat)) (w.alloc (.cells #[.slice none 0 0, .int .i64 0, .int .i64 0] 40)) from
      ⟨0, 0, _, ⟨[], 0, 0⟩, Nat.zero_le _, rfl, rfl, by decide, Rg.new w, St.Ok.new, below_alloc (Below.refl _ _) _⟩)
    go_enter Try.func5, Try.ntmps5
    go_wp2_with fail
    refine (new_calls w).mono ?_
    rintro e w' ⟨rfl, hw'⟩
    subst hw'
    go_wp2
    go_loopw [4, 5] (fun was i wl => OldAt w w.heap.size w.heap.size l.length was i wl) (fun _ i _ => l.length - (intOf i).toNat)
    case atStart => exact HN.out
    case round =>
      obtain ⟨k, u, v, s, hk, rfl, rfl, hu, hp, hs, hb⟩ := hrel
      have HP := Lib.hid hp
      have HS := Lib.hid hs
      have HB := Lib.hid hb
      have HU := Lib.hid hu
      have hsz := hb.size
      clear hp hs hb hu
      by_cases hlt : k < l.length
      · obtain ⟨ad, hA, k0, k1⟩ := at_T55 (Kd.C_below HC.out HB.out) k (by omega) (by omega)
        subst hA
        have e1 : ((k : Int).toNat * 2) = k * 2 := by simp
        rw [e1] at k0 k1
        obtain ⟨x, hx⟩ : ∃ x, rd_T55 l k = x := ⟨_, rfl⟩
        rw [hx] at k0 k1
        have j0 := Lib.cell?_alloc_some (.cells #[.int .i64 1, .int .i64 0, .slice none 0 0, .slice none 0 0] 29) k0
        have j1 := Lib.cell?_alloc_some (.cells #[.int .i64 1, .int .i64 0, .slice none 0 0, .slice none 0 0] 29) k1
        clear hx e1
        obtain ⟨w1, hw1⟩ : ∃ w1, wr.alloc (.cells #[.int .i64 1, .int .i64 0, .slice none 0 0, .slice none 0 0] 29) = w1 := ⟨_, rfl⟩
        have HR1 := Lib.hid (show Rr w1 w.heap.size wr.heap.size (.slice none 0 0) (.slice none 0 0) ⟨[], 0, 0⟩ from hw1 ▸ Rr.new wr w.heap.size)
        have HP1 := Lib.hid (show Rp w1 w.heap.size w.heap.size v s from hw1 ▸ Rg.but HP.out (But.ofAlloc _ _) (fun h => h) (fun _ _ h => h))
        have HB1 := Lib.hid (show Below w.heap.size w w1 from hw1 ▸ HB.out.alloc hsz _)
        have HW1 := Lib.hid hw1
        clear hw1
        go_wp2_with fail
        rw [HW1.out]
        refine (does_calls w.heap.size w.heap.size wr.heap.size v (.slice none 0 0) (.slice none 0 0) s ⟨[], 0, 0⟩ x.f0 x.f1 w1 HP1.out HR1.out HB1.out.size (Nat.le_refl _) hsz HS.out St.Ok.new (by omega) (by omega)).mono ?_
        rintro e w2 ⟨b, rfl, _, v', vt', va', hp', _, hbel⟩
        obtain ⟨s', hs'⟩ : ∃ s', s.step x.f0 x.f1 = s' := ⟨_, rfl⟩
        have hok := HS.out.step x.f0 x.f1
        have hup := oldest_step HS.out x.f0 x.f1
        rw [hs'] at hp' hok hup
        obtain ⟨o, ho⟩ : ∃ o, oldest s'.l s'.past = o := ⟨_, rfl⟩
        obtain ⟨hr1, hr2⟩ := oldest_ready hok
        obtain ⟨hm, _⟩ := oldest_min hok
        have h1 := oldest_one hok
        have hpa := hok.past
        have hlen := hok.len
        rw [ho] at hup hr1 hr2 hm h1
        have HP2 := Lib.hid hp'
        have HB2 := Lib.hid (HB1.out.trans hbel)
        have HO := Lib.hid ho
        have HK := Lib.hid hok
        have HR1' := Lib.hid hr1
        have HR2' := Lib.hid hr2
        have huo : u ≤ o := Int.le_trans HU.out hup
        have hpb : s'.past ≤ 1000 := by omega
        have hp0 := hpa.1
        clear hp' hbel hs' hok ho hr1 hr2 hup hpa HW1
        go_wp2_with fail
        refine (oldest_calls w.heap.size w.heap.size v' s'.l s'.past s'.last w2 HP2.out ⟨hp0, by omega⟩).mono ?_
        rintro e w' ⟨rfl, hw'⟩
        rw [HO.out, hw']
        clear hw' w'
        go_wp2_with fail
        refine (epoch_calls w.heap.size w.heap.size v' s'.l s'.past s'.last w2 HP2.out ⟨hp0, by omega⟩).mono ?_
        rintro e w' ⟨rfl, hw'⟩
        rw [hw']
        clear hw' w'
        go_wp2_with fail
        refine (epoch_calls w.heap.size w.heap.size v' s'.l s'.past s'.last w2 HP2.out ⟨hp0, by omega⟩).mono ?_
        rintro e w' ⟨rfl, hw'⟩
        rw [hw']
        clear hw' w'
        have hfin : ∀ w3, Below w2.heap.size w2 w3 → OldAt w w.heap.size w.heap.size l.length (.int .i64 o) (.int .i64 ((k : Int) + 1)) w3 := fun w3 hb3 =>
          ⟨k + 1, o, v', s', by omega, by go_num, rfl, by rw [HO.out]; exact Int.le_refl _, Rg.but HP2.out (But.ofBelow (F := fun _ => False) hb3) (fun h => h) (fun _ _ h => h), HK.out, HB2.out.trans (hb3.mono HB2.out.size)⟩
        have HF := Lib.hid hfin
        clear hfin
        by_cases hlo : o < s'.past + 1
        · go_wp2_with fail
          refine (ready_calls w.heap.size w.heap.size v' s'.l s'.past s'.last o w2 HP2.out (by omega) ⟨hp0, by omega⟩).mono ?_
          rintro e w3 ⟨rfl, hb3⟩
          rw [HR1'.out hlo]
          have HB3 := Lib.hid hb3
          have HP3 := Lib.hid (Rg.but HP2.out (But.ofBelow (F := fun _ => False) hb3) (fun h => h) (fun _ _ h => h))
          clear hb3
          go_wp2_with fail
          refine (ready_calls w.heap.size w.heap.size v' s'.l s'.past s'.last (o - 1) w3 HP3.out (by omega) ⟨hp0, by omega⟩).mono ?_
          rintro e w4 ⟨rfl, hb4⟩
          rw [HR2'.out]
          have HB4 := Lib.hid (below_then HB3.out HB3.out.size hb4)
          clear hb4
          go_wp2
          go_roundw
          case rel => exact HF.out _ HB4.out
          case measure => simp [intOf]; omega
        · go_wp2_with fail
          refine (ready_calls w.heap.size w.heap.size v' s'.l s'.past s'.last (o - 1) w2 HP2.out (by omega) ⟨hp0, by omega⟩).mono ?_
          rintro e w4 ⟨rfl, hb4⟩
          rw [HR2'.out]
          have HB4 := Lib.hid hb4
          clear hb4
          go_wp2
          go_roundw
          case rel => exact HF.out _ HB4.out
          case measure => simp [intOf]; omega
      · obtain rfl : k = l.length := by omega
        go_wp2_with fail
        refine (awake_calls wr).mono ?_
        rintro e w2 ⟨rfl, hb2⟩
        have HB2 := Lib.hid (HB.out.trans (hb2.mono HB.out.size))
        clear hb2
        go_wp2
        go_ret
        exact ⟨rfl, HB2.out⟩
end Go.Proofs.Ytcmgdnhllkfjcaa.Reg
