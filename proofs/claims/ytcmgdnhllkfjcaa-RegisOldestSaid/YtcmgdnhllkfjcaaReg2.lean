/- Regis (chapter 21): what Begin does. -/
import Derived.Test.YtcmgdnhllkfjcaaReg1
import Derived.Deep.RegionHeld3
import Derived.Deep.DrawnRows
import Derived.Deep.RegionLaw
namespace Go.Proofs.Ytcmgdnhllkfjcaa.Reg
open Go.RowKit Go.Proofs.YtcmgdnhllkfjcaaW.PrintWords Go.Proofs.YtcmgdnhllkfjcaaW.PrintLast Go.Proofs.YtcmgdnhllkfjcaaW.PrintMore Go.Proofs.Ytcmgdnhllkfjcaa.Objs Go.Proofs.Ytcmgdnhllkfjcaa.PRegisPlays
set_option linter.unusedVariables false
set_option linter.unusedSimpArgs false
attribute [local go_sem ↓] Go.wp_at_zero Go.wp_at_succ

theorem begin_nil (w : World) : Calls Try.prog 15 #[.pointer none] w fun e w' => e = .returned (.tuple #[.int .i64 0, .int .i64 0, .iface 56 (.int .i64 1)]) ∧ w' = w := by
  go_enter Try.func15, Try.ntmps15
  go_wp2
  go_ret3
  exact ⟨rfl, rfl⟩
theorem begin_full (B p : Nat) (v : Value) (l : List S55) (past last : Int) (w : World) (h : Rg w B p v l past last) (hl : 64 ≤ l.length) :
    Calls Try.prog 15 #[.pointer (some ⟨p, 0, none⟩)] w fun e w' => e = .returned (.tuple #[.int .i64 0, .int .i64 0, .iface 56 (.int .i64 16)]) ∧ w' = w := by
  have c0 := h.at_.cell (j := 0) rfl
  obtain ⟨A, c, rfl, hc, hC⟩ := Kd.R_reads h.row
  have hn : l.length ≤ 9223372036854775807 := hC.2.1
  clear h hC
  go_enter Try.func15, Try.ntmps15
  go_wp2
  go_ret3
  exact ⟨rfl, rfl⟩
theorem frozen_drew (w : World) (a : Addr) : w.drew.frozen? a = w.frozen? a := rfl
theorem epoch_cell (p : Nat) (past : Int) (w : World) (h : w.cell? ⟨p, 1, none⟩ = some (.int .i64 past)) (h0 : 0 ≤ past ∧ past ≤ 1000000) :
    Calls Try.prog 19 #[.pointer (some ⟨p, 0, none⟩)] w fun e w' => e = .returned (.int .i64 (past + 1)) ∧ w' = w := by
  go_enter Try.func19, Try.ntmps19
  go_wp2
  go_ret
  exact ⟨rfl, rfl⟩
theorem Rg.stored {W w1 : World} {B p : Nat} {v v1 : Value} {l l1 : List S55} {past last : Int} (h : Rg W B p v l past last) (hg : W.drew.grownBy w1 v.ownBlock) (ho : Kd.R k55 55 w1 B (fun q => q ≠ p) v1 l1) :
    Rg (w1.setCell ⟨p, 0, none⟩ v1) B p v1 l1 past last ∧ But (fun k => k = p ∨ some k = v.ownBlock) W (w1.setCell ⟨p, 0, none⟩ v1) :=
  ⟨⟨(At.grown h.at_.drew hg (Kd.R_away h.row (fun q hq => hq))).set 0 _, Kd.R_far ho (p := ⟨p, 0, none⟩) (fun q hq => hq) _⟩,
    But.trans ((But.ofDrewN W 1).mono (fun k hk => hk.elim)) (But.trans ((But.ofGrown hg).mono (fun k hk => .inr hk)) ((But.ofSet w1 p 0 v1).mono (fun k hk => .inl hk)) (fun k hk => .inl hk)) (fun k hk => .inl hk)⟩
theorem info55 : (Try.prog.info? 55).map (fun i => (i.zero, i.size, i.bytes)) = some (some (.agg #[.int .i64 0, .int .i64 0]), 2, 16) := by kernel_rfl
set_option maxRecDepth 100000 in
set_option maxHeartbeats 32000000 in
theorem begin_calls (B p : Nat) (v : Value) (l : List S55) (past last : Int) (w : World) (h : Rg w B p v l past last) (hl : l.length < 64) (hB : B ≤ w.heap.size) (h0 : 0 ≤ past ∧ past ≤ 1000000) (h1 : 0 ≤ last ∧ last ≤ 1000000) :
    Calls Try.prog 15 #[.pointer (some ⟨p, 0, none⟩)] w fun e w' => e = .returned (.tuple #[.int .i64 (last + 1), .int .i64 (past + 1), .nilIface]) ∧
      ∃ v', Rg w' B p v' (l ++ [⟨last + 1, past + 1⟩]) past (last + 1) ∧ But (fun k => k = p ∨ some k = v.ownBlock) w w' ∧ (v'.ownBlock = v.ownBlock ∨ ∃ b, v'.ownBlock = some b ∧ w.heap.size ≤ b) := by
  have c0 := h.at_.cell (j := 0) rfl
  have c2 := h.at_.cell (j := 2) rfl
  have f2 := h.at_.frozen 2
  have f0 := h.at_.frozen 0
  have hlt := h.at_.lt
  obtain ⟨A, c, hv, hc, hC⟩ := Kd.R_reads h.row
  have hn : l.length ≤ 9223372036854775807 := hC.2.1
  -- behind the store of the ticket
  have hS : Rg (w.setCell ⟨p, 2, none⟩ (.int .i64 (last + 1))) B p v l past (last + 1) := ⟨h.at_.set 2 _, Kd.R_far h.row (p := ⟨p, 2, none⟩) (fun q hq => hq) _⟩
  obtain ⟨W, hW⟩ : ∃ W, w.setCell ⟨p, 2, none⟩ (.int .i64 (last + 1)) = W := ⟨_, rfl⟩
  have hbut : But (fun k => k = p) w W := by rw [← hW]; exact But.ofSet w p 2 _
  rw [hW] at hS
  subst hv
  have HH := Lib.hid h
  clear h hC
  have HS := Lib.hid hS
  have HBU := Lib.hid hbut
  have d0 := hS.at_.cell (j := 0) rfl
  have d1 := hS.at_.cell (j := 1) rfl
  have d2 := hS.at_.cell (j := 2) rfl
  have hpl := hS.at_.lt
  have df := hS.at_.frozen 0
  have hBW : B ≤ W.heap.size := Nat.le_trans hB hbut.size
  clear hS hbut
  go_enter Try.func15, Try.ntmps15
  go_upto_region 6 with fail
  have hne : some p ≠ (Value.slice A l.length c).ownBlock := Kd.R_away HS.out.row (fun q hq => hq)
  have HNE := Lib.hid hne
  clear hne
  go_cut [] from 24 to 39 (fun wx => ∃ v', Hid (Rg wx B p v' (l ++ [⟨last + 1, past + 1⟩]) past (last + 1)) ∧ Hid (But (fun k => k = p ∨ some k = (Value.slice A l.length c).ownBlock) w wx) ∧ Hid (v'.ownBlock = (Value.slice A l.length c).ownBlock ∨ ∃ b, v'.ownBlock = some b ∧ w.heap.size ≤ b))
  case first =>
    go_region_law
      (first
        | (refine goes_ Try.func19 (by kernel_rfl) rfl #[.pointer (some ⟨p, 0, none⟩)] (by rfl) rfl rfl (by simp only [List.map_toArray, List.map_cons, List.map_nil]; rfl) ?_; refine (epoch_cell p past W.drew d1 h0).mono ?_; rintro e w' ⟨rfl, rfl⟩; refine ⟨_, rfl, ?_⟩)
        | (refine Kd.R_append_step k55 (w0 := W) B (by rfl) (.tmp 28) (.tmp 36) 38 55 (.agg #[(.int .i64 0), (.int .i64 0)]) 16 rfl Try.underlying38 info55 rfl (by decide) (by omega) (.slice A l.length c) l (⟨last + 1, past + 1⟩ : S55) [.int .i64 (last + 1), .int .i64 (past + 1)] (fun q => q ≠ p) (fun _ => False) (by simp [Act.eval]) (by simp [Act.eval]) (k55_mkM _ _ _ _) (fun _ hk => hk.elim) (fun k hk => by simp at hk; omega) (Kd.R_drew HS.out.row) (below_drew (Below.refl _ _)) (by simp; omega) (by omega) ?_; intro v1 w1 ho hb hg hat; obtain ⟨A1, c1, rfl, hc1, hC1⟩ := Kd.R_reads ho; have e0 := (hg.cell_far (⟨p, 0, none⟩ : Addr) (by simp; omega) HNE.out).trans d0; have ef : w1.frozen? ⟨p, 0, none⟩ = false := (hg.frozen_far (⟨p, 0, none⟩ : Addr) (by simp; omega) HNE.out).trans df))
    all_goals
      have hST := HS.out.stored hg ho
      have hbt : But (fun k => k = p ∨ some k = (Value.slice A l.length c).ownBlock) w _ := (HBU.out.mono (fun k hk => .inl hk)).trans hST.2 (fun k hk => .inl hk)
      have hat' : (Value.slice A1 (l ++ [(⟨last + 1, past + 1⟩ : S55)]).length c1).ownBlock = (Value.slice A l.length c).ownBlock ∨ ∃ b, (Value.slice A1 (l ++ [(⟨last + 1, past + 1⟩ : S55)]).length c1).ownBlock = some b ∧ w.heap.size ≤ b :=
        hat.imp id (fun ⟨b, hb1, hb2⟩ => ⟨b, hb1, Nat.le_trans HBU.out.size hb2⟩)
      have hST1 := hST.1
      clear hST hb hg ho hat e0 ef hC1 d0 d1 d2 df c0 c2
      have el : (l ++ [(⟨last + 1, past + 1⟩ : S55)]).length = l.length + 1 := by simp
      rw [el] at hST1 hbt hat'
      have HST := Lib.hid hST1
      have HBT := Lib.hid hbt
      have HAT := Lib.hid hat'
      clear hST1 hbt hat'
      go_wp2_with fail
      go_meet
      exact ⟨_, HST, HBT, HAT⟩
  case rest =>
    obtain ⟨v', HST, HBT, HAT⟩ := hcut
    clear d0 d1 d2 df c0 c2
    have g1 := HST.out.at_.cell (j := 1) rfl
    have g2 := HST.out.at_.cell (j := 2) rfl
    go_upto_region 7 with fail
    go_region_held3 (fun w' => w'.cell? ⟨p, 2, none⟩ = some (.int .i64 (last + 1)) ∧ w'.cell? ⟨p, 1, none⟩ = some (.int .i64 past))
      (go_keep)
      (first | (go_at_call 19; refine (epoch_cell p past _ ?hc h0).mono ?_; (case hc => simp [*]); rintro e w' ⟨rfl, rfl⟩))
    all_goals
      go_wp2
      go_ret3
      exact ⟨rfl, v', HST.out.but (w1 := wc.drew) (But.ofDrewN wc 1) (fun h => h) (fun _ _ h => h), HBT.out.trans (w2 := wc.drew) (But.ofDrewN wc 1) (fun _ h => h.elim), HAT.out⟩
end Go.Proofs.Ytcmgdnhllkfjcaa.Reg
