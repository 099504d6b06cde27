/- Regis (chapter 21): what slices.Delete does to a row of tickets, and End. -/
import Derived.Test.YtcmgdnhllkfjcaaReg2
import Derived.Test.YtcmgdnhllkfjcaaReg3
import Derived.Lib.SliceRun
import Derived.Deep.RegionLaw
namespace Go.Proofs.Ytcmgdnhllkfjcaa.Reg
open Go.RowKit Go.Proofs.YtcmgdnhllkfjcaaW.PrintWords Go.Proofs.YtcmgdnhllkfjcaaW.PrintLast Go.Proofs.YtcmgdnhllkfjcaaW.PrintMore Go.Proofs.Ytcmgdnhllkfjcaa.Objs Go.Proofs.Ytcmgdnhllkfjcaa.PRegisPlays
set_option linter.unusedVariables false
set_option linter.unusedSimpArgs false

theorem zero55 (w : World) : (zeroValue 55).run Try.prog w = .ok (.agg #[.int .i64 0, .int .i64 0]) w := by kernel_rfl
/-- 'clear' of one element of two cells. -/
theorem run_clear_one (w : World) (ty : TypeId) (b o c : Nat) (hc : ∀ j, j < 2 → (w.cell? ⟨b, o + j, none⟩).isSome = true) (hf : ∀ j, j < 2 → w.frozen? ⟨b, o + j, none⟩ = false) :
    (Builtin.clear_ #[38] ty #[.slice (some ⟨b, o, none⟩) 1 c]).run Try.prog w = .ok (.tuple #[]) (w.setCells b o [.int .i64 0, .int .i64 0]) := by
  have hzc : (Builtin.zeroCells (Value.agg #[.int .i64 0, .int .i64 0]).cells 1).toList = [.int .i64 0, .int .i64 0] := by kernel_rfl
  have hst := run_storeCells_cells (P := Try.prog) b o [.int .i64 0, .int .i64 0] 0 w (by simpa using hc) (by simpa using hf) (by intro v hv; simp at hv; subst hv; rfl)
  simp only [Nat.add_zero] at hst
  simp [Builtin.clear_, run_underlying Try.underlying38, zero55, hzc, hst]
set_option maxRecDepth 100000 in
set_option maxHeartbeats 8000000 in
theorem delete_calls (g n cap i : Nat) (cur : Array Value) (w : World) (h : w.heap[g]? = some (.cells cur 55 (0, 0))) (hsz : cur.size = cap * 2) (hn : n ≤ cap) (hcap : cap ≤ 9223372036854775807) (hi : i < n) (h1 : ∀ v ∈ cur.toList.take (n * 2), v.oneCell' = true) :
    Calls Try.prog 25 #[.slice (some ⟨g, 0, none⟩) n cap, .int .i64 i, .int .i64 ((i : Int) + 1)] w fun e w' => e = .returned (.slice (some ⟨g, 0, none⟩) (n - 1) cap) ∧
      w' = (w.drew.setCells g (i * 2) ((cur.toList.take (n * 2)).drop ((i + 1) * 2))).setCells g ((n - 1) * 2) [.int .i64 0, .int .i64 0] := by
  obtain ⟨i0, hi0, hz0, hz1, hz2⟩ := info_parts info55
  have hcl : ∀ j, j < cap * 2 → (w.drew.cell? ⟨g, j, none⟩).isSome = true ∧ w.drew.frozen? ⟨g, j, none⟩ = false := by
    intro j hj
    refine ⟨?_, ?_⟩
    · show (w.cell? _).isSome = true
      simp [World.cell?, h]; omega
    · show w.frozen? _ = false
      simp [World.frozen?, h]
  obtain ⟨news, hnews⟩ : ∃ news, news = (cur.toList.take (n * 2)).drop ((i + 1) * 2) := ⟨_, rfl⟩
  have hlen : news.length = (n - (i + 1)) * 2 := by rw [hnews]; simp; omega
  rw [← hnews]
  have hget : ∀ t u, news[t]? = some u → w.cell? ⟨g, (i + 1) * 2 + t, none⟩ = some u := by
    intro t u hu
    have ht : t < news.length := (List.getElem?_eq_some_iff.1 hu).1
    rw [hnews, List.getElem?_drop, List.getElem?_take] at hu
    split at hu
    · rw [Array.getElem?_toList] at hu
      simp [World.cell?, h, hu]
    · cases hu
  obtain ⟨A, hA, hsrc⟩ : ∃ A : Addr, (if cap = i + 1 then some (⟨g, 0, none⟩ : Addr) else some ⟨g, (i + 1) * 2, none⟩) = some A ∧ Hid (∀ t u, news[t]? = some u → w.drew.cell? (A.add t) = some u) := by
    by_cases hc : cap = i + 1
    · refine ⟨⟨g, 0, none⟩, by simp [hc], fun t u hu => ?_⟩
      have h0 : news.length = 0 := by rw [hlen]; omega
      rw [List.length_eq_zero_iff.1 h0] at hu
      simp at hu
    · refine ⟨⟨g, (i + 1) * 2, none⟩, by simp [hc], fun t u hu => ?_⟩
      rw [Addr.add_lit]
      exact hget t u hu
  have s1 : Hid (news.length = (n - (i + 1)) * 2) := hlen
  have s2 : Hid (∀ u ∈ news, u.oneCell' = true) := by
    intro u hu
    rw [hnews] at hu
    exact h1 u (List.mem_of_mem_drop hu)
  have s3 : Hid (∀ t, t < news.length → (w.drew.cell? ⟨g, 0 + i * 2 + t, none⟩).isSome = true ∧ w.drew.frozen? ⟨g, 0 + i * 2 + t, none⟩ = false) := by
    intro t ht
    rw [hlen] at ht
    have hj : 0 + i * 2 + t < cap * 2 := by omega
    exact hcl _ hj
  obtain ⟨W1, hW1⟩ : ∃ W1, W1 = w.drew.setCells g (0 + i * 2) news := ⟨_, rfl⟩
  obtain ⟨cur1, hb1, hz, hl⟩ := setCells_row (g := g) (e := 55) news (0 + i * 2) w.drew cur h (by rw [hlen]; omega)
  have hcl1 : ∀ j, j < cap * 2 → (W1.cell? ⟨g, j, none⟩).isSome = true ∧ W1.frozen? ⟨g, j, none⟩ = false := by
    intro j hj
    rw [← hW1] at hb1
    refine ⟨?_, ?_⟩
    · simp [World.cell?, hb1, hz, hsz]; omega
    · simp [World.frozen?, hb1]
  have hclr : ∀ ty, (Builtin.clear_ #[38] ty #[.slice (some ⟨g, (n - 1) * 2, none⟩) 1 (cap - (n - 1))]).run Try.prog W1 = .ok (.tuple #[]) (W1.setCells g ((n - 1) * 2) [.int .i64 0, .int .i64 0]) := by
    intro ty
    refine run_clear_one W1 ty g ((n - 1) * 2) (cap - (n - 1)) (fun j hj => (hcl1 _ ?_).1) (fun j hj => (hcl1 _ ?_).2) <;> omega
  have hW : Hid (W1 = w.drew.setCells g (0 + i * 2) news) := hW1
  have HX := Lib.hid hcl1
  clear hW1 hcl1 hb1 hz hl hget hnews hlen h h1 hcl hsz
  have q1 : i ≤ cap := by omega
  have q2 : i + 1 ≤ cap := by omega
  obtain ⟨m, rfl⟩ : ∃ m, n = m + 1 := ⟨n - 1, by omega⟩
  go_enter Try.func25, Try.ntmps25
  go_upto_region 5 with fail
  have q3 : (0 : Int) ≤ (i : Int) + 1 := by omega
  have q4 : i ≤ m := by omega
  have e1 : m + 1 - (i + 1) = m - i := by omega
  have e2 : i + (m - i) = m := by omega
  rw [e1] at s1
  simp only [Nat.add_sub_cancel] at hclr ⊢
  go_region_law (refine step_append_room rfl (.tmp 22) (.tmp 25) 38 rfl 55 i0 2 Try.underlying38 hi0 hz1 g 0 i cap (by simp [Act.eval, Act.put]) A (m - i) (cap - (i + 1)) news (by simp [Act.eval, Act.put, hA]) s1.out hsrc.out s2.out (by omega) s3.out ?_; rw [← hW.out, e2])
  go_wp2
  go_ret
  exact ⟨rfl, by rw [hW.out, Nat.zero_add]; rfl⟩
/-- A row's cells. -/
def flat (l : List S55) : List Value := l.flatMap fun x => [.int .i64 x.f0, .int .i64 x.f1]
theorem flat_len (l : List S55) : (flat l).length = l.length * 2 := by
  induction l with
  | nil => rfl
  | cons x l ih => simp only [flat, List.flatMap_cons, List.length_append, List.length_cons, List.length_nil] at ih ⊢; rw [ih]; omega
theorem flat_take (l : List S55) (k : Nat) : (flat l).take (k * 2) = flat (l.take k) := by
  induction l generalizing k with
  | nil => simp [flat]
  | cons x l ih =>
    cases k with
    | zero => simp [flat]
    | succ k =>
      have e : (k + 1) * 2 = k * 2 + 1 + 1 := by omega
      rw [e, List.take_succ_cons]
      show List.take (k * 2 + 1 + 1) (.int .i64 x.f0 :: .int .i64 x.f1 :: flat l) = .int .i64 x.f0 :: .int .i64 x.f1 :: flat (l.take k)
      rw [List.take_succ_cons, List.take_succ_cons, ih]
theorem flat_drop (l : List S55) (k : Nat) : (flat l).drop (k * 2) = flat (l.drop k) := by
  induction l generalizing k with
  | nil => simp [flat]
  | cons x l ih =>
    cases k with
    | zero => simp [flat]
    | succ k =>
      have e : (k + 1) * 2 = k * 2 + 1 + 1 := by omega
      rw [e, List.drop_succ_cons]
      show List.drop (k * 2 + 1 + 1) (.int .i64 x.f0 :: .int .i64 x.f1 :: flat l) = flat (l.drop k)
      rw [List.drop_succ_cons, List.drop_succ_cons, ih]
theorem flat_append (a b : List S55) : flat (a ++ b) = flat a ++ flat b := by simp [flat]
theorem flat_one (l : List S55) : ∀ v ∈ flat l, v.oneCell' = true := by
  intro v hv
  simp only [flat, List.mem_flatMap, List.mem_cons, List.not_mem_nil, or_false] at hv
  obtain ⟨x, _, rfl | rfl⟩ := hv <;> rfl
theorem reps_flat {R : S55 → List Value → Prop} (hR : ∀ x c, R x c → c = [.int .i64 x.f0, .int .i64 x.f1]) {l : List S55} {cs : List Value} (h : Reps R 2 l cs) : cs = flat l := by
  obtain ⟨hl, hg⟩ := h
  induction l generalizing cs with
  | nil => exact List.eq_nil_of_length_eq_zero (by simpa using hl)
  | cons x l ih =>
    have h0 := hR _ _ (hg 0 x rfl)
    simp only [Nat.zero_mul, List.drop_zero] at h0
    have h2 : cs.drop 2 = flat l := by
      refine ih ?_ (fun j p hj => ?_)
      · rw [List.length_drop, hl]; simp only [List.length_cons]; omega
      · have := hg (j + 1) p (by simpa using hj)
        rw [List.drop_drop, show 2 + j * 2 = (j + 1) * 2 by omega]
        exact this
    rw [← List.take_append_drop 2 cs, h0, h2]; rfl
theorem flat_reps {R : S55 → List Value → Prop} (hR : ∀ x, R x [.int .i64 x.f0, .int .i64 x.f1]) (l : List S55) : Reps R 2 l (flat l) := by
  refine ⟨flat_len l, fun j p hj => ?_⟩
  rw [flat_drop]
  have hlt : j < l.length := (List.getElem?_eq_some_iff.1 hj).1
  have e : l.drop j = p :: l.drop (j + 1) := by
    rw [List.drop_eq_getElem_cons hlt]
    rw [List.getElem?_eq_getElem hlt] at hj
    rw [Option.some.inj hj]
  rw [e]
  exact hR p
/-- A row of tickets by its block. -/
theorem row_parts {w : World} {B : Nat} {ok : Nat → Prop} {v : Value} {l : List S55} (h : Kd.R k55 55 w B ok v l) (hp : 0 < l.length) :
    ∃ g cap cur, v = .slice (some ⟨g, 0, none⟩) l.length cap ∧ B ≤ g ∧ ok g ∧ w.heap[g]? = some (.cells cur 55 (0, 0)) ∧ l.length ≤ cap ∧ cap ≤ maxLen ∧ cur.size = cap * 2 ∧ cur.toList.take (l.length * 2) = flat l := by
  obtain ⟨hok, inner, ⟨_, hown⟩, hr⟩ := h
  have hf := reps_flat (fun x c hx => k55_openM hx) hr
  rcases hown with ⟨_, h0⟩ | ⟨g, cap, cur, rfl, hB, hb, hle, hm, hsz, ht⟩
  · omega
  · exact ⟨g, cap, cur, rfl, hB, hok g rfl, hb, hle, hm, hsz, ht.trans hf⟩
theorem row_mk {w : World} {B g cap : Nat} {ok : Nat → Prop} {cur : Array Value} {l : List S55} (hB : B ≤ g) (hok : ok g) (hb : w.heap[g]? = some (.cells cur 55 (0, 0))) (hle : l.length ≤ cap) (hm : cap ≤ maxLen) (hsz : cur.size = cap * 2) (ht : cur.toList.take (l.length * 2) = flat l) :
    Kd.R k55 55 w B ok (.slice (some ⟨g, 0, none⟩) l.length cap) l := by
  refine ⟨fun k hk => by simp [Value.ownBlock] at hk; subst hk; exact hok, flat l, ⟨flat_len l, .inr ⟨g, cap, cur, rfl, hB, hb, hle, hm, hsz, ht⟩⟩, flat_reps (fun x => k55_mkM _ _ _ _) l⟩
end Go.Proofs.Ytcmgdnhllkfjcaa.Reg
