/- Regis (chapter 21): what End does. -/
import Derived.Test.YtcmgdnhllkfjcaaReg4
import Derived.Test.YtcmgdnhllkfjcaaReg6
namespace Go.Proofs.Ytcmgdnhllkfjcaa.Reg
open Go.RowKit Go.Proofs.YtcmgdnhllkfjcaaW.PrintWords Go.Proofs.YtcmgdnhllkfjcaaW.PrintLast Go.Proofs.YtcmgdnhllkfjcaaW.PrintMore Go.Proofs.Ytcmgdnhllkfjcaa.Objs Go.Proofs.Ytcmgdnhllkfjcaa.PRegisPlays
set_option linter.unusedVariables false
set_option linter.unusedSimpArgs false

theorem end_nil (t : Int) (w : World) : Calls Try.prog 14 #[.pointer none, .int .i64 t] w fun e w' => e = .returned (.iface 56 (.int .i64 1)) ∧ Below w.heap.size w w' := by
  go_enter Try.func14, Try.ntmps14
  go_wp2
  go_ret
  exact ⟨rfl, below_alloc (Below.refl _ _) _⟩
/-- What the deletion leaves, as a row. -/
theorem row_deleted {w W1 W2 : World} {B g cap k : Nat} {ok : Nat → Prop} {cur : Array Value} {l : List S55} (hB : B ≤ g) (hok : ok g) (hb : w.heap[g]? = some (.cells cur 55 (0, 0))) (hle : l.length ≤ cap) (hm : cap ≤ maxLen) (hsz : cur.size = cap * 2) (ht : cur.toList.take (l.length * 2) = flat l) (hk : k < l.length)
    (h1 : W1 = w.drew.setCells g (k * 2) ((cur.toList.take (l.length * 2)).drop ((k + 1) * 2))) (h2 : W2 = W1.setCells g ((l.length - 1) * 2) [.int .i64 0, .int .i64 0]) :
    Kd.R k55 55 W2 B ok (.slice (some ⟨g, 0, none⟩) (l.length - 1) cap) (l.eraseIdx k) ∧ But (fun q => q = g) w W2 := by
  have hnl : ((cur.toList.take (l.length * 2)).drop ((k + 1) * 2)) = flat (l.drop (k + 1)) := by rw [ht, flat_drop]
  rw [hnl] at h1
  have hfl : (flat (l.drop (k + 1))).length = (l.length - (k + 1)) * 2 := by rw [flat_len, List.length_drop]
  obtain ⟨cur1, hb1, hz1, hl1⟩ := setCells_row (g := g) (e := 55) (flat (l.drop (k + 1))) (k * 2) w.drew cur hb (by rw [hfl]; omega)
  rw [← h1] at hb1
  obtain ⟨cur2, hb2, hz2, hl2⟩ := setCells_row (g := g) (e := 55) [.int .i64 0, .int .i64 0] ((l.length - 1) * 2) W1 cur1 hb1 (by simp; omega)
  rw [← h2] at hb2
  have hel : (l.eraseIdx k).length = l.length - 1 := by rw [List.length_eraseIdx]; simp [hk]
  have hfe : flat (l.eraseIdx k) = flat (l.take k) ++ flat (l.drop (k + 1)) := by rw [← flat_append, List.eraseIdx_eq_take_drop_succ]
  refine ⟨?_, ?_⟩
  · rw [← hel]
    refine row_mk hB hok hb2 (by omega) hm (by omega) ?_
    rw [hel, hl2, List.append_assoc, List.take_append_of_le_length (by simp; omega), List.take_take, Nat.min_self, hl1, hfe]
    have e1 : cur.toList.take (k * 2) = flat (l.take k) := by
      have : (cur.toList.take (l.length * 2)).take (k * 2) = flat (l.take k) := by rw [ht, flat_take]
      rwa [List.take_take, Nat.min_eq_left (by omega)] at this
    rw [e1, List.take_append_of_le_length (by rw [List.length_append, hfl, flat_len, List.length_take]; omega), List.take_of_length_le (by rw [List.length_append, hfl, flat_len, List.length_take]; omega)]
  · obtain ⟨a1, a2, a3, a4⟩ := setCells_same g (flat (l.drop (k + 1))) (k * 2) w.drew
    obtain ⟨b1, b2, b3, b4⟩ := setCells_same g [.int .i64 0, .int .i64 0] ((l.length - 1) * 2) W1
    rw [← h1] at a1 a2 a3 a4
    rw [← h2] at b1 b2 b3 b4
    refine ⟨b1.trans a1, b2.trans a2, b3.trans a3, by rw [b4, a4]; exact Nat.le_refl _, fun q hq hne => ?_⟩
    rw [h2, setCells_far _ _ q hne, h1, setCells_far _ _ q hne]; rfl
end Go.Proofs.Ytcmgdnhllkfjcaa.Reg
