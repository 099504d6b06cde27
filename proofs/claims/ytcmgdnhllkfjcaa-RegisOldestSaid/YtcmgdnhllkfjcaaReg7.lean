/- Regis (chapter 21): what End does. -/
import Derived.Test.YtcmgdnhllkfjcaaReg5
import Derived.Test.YtcmgdnhllkfjcaaReg6
namespace Go.Proofs.Ytcmgdnhllkfjcaa.Reg
open Go.RowKit Go.Proofs.YtcmgdnhllkfjcaaW.PrintWords Go.Proofs.YtcmgdnhllkfjcaaW.PrintLast Go.Proofs.YtcmgdnhllkfjcaaW.PrintMore Go.Proofs.Ytcmgdnhllkfjcaa.Objs Go.Proofs.Ytcmgdnhllkfjcaa.PRegisPlays
set_option linter.unusedVariables false
set_option linter.unusedSimpArgs false

/-- What End tells. -/
def endV (l : List S55) (t : Int) : Value := match place l t with | none => .iface 56 (.int .i64 1) | some _ => .nilIface
def PEnd (w : World) (B p : Nat) (v : Value) (l : List S55) (past last t : Int) (e : Ending) (w' : World) : Prop :=
  e = .returned (endV l t) ∧ ∃ v', Rg w' B p v' (ended l t) past last ∧ But (fun k => k = p ∨ some k = v.ownBlock) w w' ∧ (v'.ownBlock = v.ownBlock ∨ ∃ b, v'.ownBlock = some b ∧ w.heap.size ≤ b)
set_option maxRecDepth 100000 in
set_option maxHeartbeats 1600000 in
theorem end_calls (B p : Nat) (v : Value) (l : List S55) (past last t : Int) (w : World) (h : Rg w B p v l past last) :
    Calls Try.prog 14 #[.pointer (some ⟨p, 0, none⟩), .int .i64 t] w (PEnd w B p v l past last t) := by
  have c0 := h.at_.cell (j := 0) rfl
  have c0b := Lib.cell?_alloc_some (.cells #[.int .i64 t] 3) c0
  obtain ⟨A, c, rfl, hc, hC⟩ := Kd.R_reads h.row
  have hn : l.length ≤ 9223372036854775807 := hC.2.1
  have HC := Lib.hid (Kd.C_below hC (below_alloc (Below.refl _ _) (.cells #[.int .i64 t] 3)))
  have HT := Lib.hid ((At.new w [.int .i64 t] 3).cell (j := 0) rfl)
  have HH := Lib.hid h
  clear h hC
  go_enter Try.func14, Try.ntmps14
  go_wp2_with fail
  refine (index_calls A c l t w.heap.size _ HC.out hc HT.out).mono ?_
  rintro e w1 ⟨r, rfl, hcase, hb⟩
  have hbut : But (fun _ => False) w w1 := (But.ofAlloc w _).trans (But.ofBelow (F := fun _ => False) hb) (fun _ h => h.elim)
  have hR1 := HH.out.but hbut (fun h => h) (fun _ _ h => h)
  have HBT := Lib.hid hbut
  have HR1 := Lib.hid hR1
  have d0 := hR1.at_.cell (j := 0) rfl
  clear hb hbut hR1 c0 c0b HC HT
  rcases hcase with ⟨rfl, hno⟩ | ⟨k, hk, rfl, hat, hno⟩
  · have HP := Lib.hid (place_none hno)
    clear hno
    go_wp2
    go_ret
    refine ⟨by unfold endV; rw [HP.out]; rfl, .slice A l.length c, ?_, HBT.out.mono (fun _ h => h.elim), .inl rfl⟩
    unfold ended
    rw [HP.out]
    exact HR1.out
  · have HP := Lib.hid (place_some hk hat hno)
    clear hno hat
    have hlt := HR1.out.at_.lt
    obtain ⟨g, cap, cur, hv, hB, hgp, hbl, hle, hmx, hsz, htk⟩ := row_parts HR1.out.row (by omega)
    have hv1 : A = some ⟨g, 0, none⟩ ∧ c = cap := by simpa using hv
    obtain ⟨rfl, rfl⟩ := hv1
    have hcx : c ≤ 9223372036854775807 := hmx
    have h1c : ∀ u ∈ cur.toList.take (l.length * 2), u.oneCell' = true := by rw [htk]; exact flat_one l
    have HBL := Lib.hid hbl
    have HSZ := Lib.hid hsz
    have HTK := Lib.hid htk
    have H1C := Lib.hid h1c
    clear hv hbl hsz htk h1c
    have hq : (0 : Int) ≤ (k : Int) := by omega
    have hq2 : ¬ (k : Int) < 0 := by omega
    go_wp2_with fail
    refine (delete_calls g l.length c k cur w1 HBL.out HSZ.out hle hcx hk H1C.out).mono ?_
    rintro e w2 ⟨rfl, hw2⟩
    have hdel := row_deleted (W1 := w1.drew.setCells g (k * 2) ((cur.toList.take (l.length * 2)).drop ((k + 1) * 2))) (W2 := w2) (ok := fun q => q ≠ p) hB hgp HBL.out hle hmx HSZ.out HTK.out hk rfl hw2
    have hat2 : At w2 p [.slice (some ⟨g, 0, none⟩) l.length c, .int .i64 past, .int .i64 last] 40 := HR1.out.at_.but hdel.2 (fun h => hgp h.symm)
    have e0 := hat2.cell (j := 0) rfl
    have f0 := hat2.frozen 0
    have HD := Lib.hid hdel
    have HA2 := Lib.hid hat2
    clear hw2 hdel hat2 d0
    go_wp2
    go_ret
    refine ⟨by unfold endV; rw [HP.out]; rfl, .slice (some ⟨g, 0, none⟩) (l.length - 1) c, ⟨HA2.out.set 0 _, ?_⟩, ?_, .inl rfl⟩
    · unfold ended
      rw [HP.out]
      exact Kd.R_far HD.out.1 (p := ⟨p, 0, none⟩) (fun q hq => hq) _
    · refine (HBT.out.mono (fun _ h => h.elim)).trans ((HD.out.2.mono (G := fun k => k = p ∨ some k = (Value.slice (some ⟨g, 0, none⟩) l.length c).ownBlock) (fun q hq => .inr (by rw [hq]; rfl))).trans ((But.ofSet w2 p 0 _).mono (G := fun k => k = p ∨ some k = (Value.slice (some ⟨g, 0, none⟩) l.length c).ownBlock) (fun q hq => .inl hq)) (fun k hk => .inl hk)) (fun k hk => .inl hk)
end Go.Proofs.Ytcmgdnhllkfjcaa.Reg
