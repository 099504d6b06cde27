/- Regis (chapter 21): what the registry is after any steps, as plain lists. -/
import Derived.Test.YtcmgdnhllkfjcaaReg1
namespace Go.Proofs.Ytcmgdnhllkfjcaa.Reg
open Go.RowKit Go.Proofs.YtcmgdnhllkfjcaaW.PrintWords Go.Proofs.YtcmgdnhllkfjcaaW.PrintLast Go.Proofs.YtcmgdnhllkfjcaaW.PrintMore Go.Proofs.Ytcmgdnhllkfjcaa.Objs Go.Proofs.Ytcmgdnhllkfjcaa.PRegisPlays
set_option linter.unusedVariables false
set_option linter.unusedSimpArgs false

/-- Where a ticket stands. -/
def place (l : List S55) (t : Int) : Option Nat := l.findIdx? fun x => x.f0 == t
theorem place_none {l : List S55} {t : Int} (h : ∀ j : Nat, j < l.length → (rd_T55 l j).f0 ≠ t) : place l t = none := by
  unfold place
  rw [List.findIdx?_eq_none_iff]
  intro x hx
  obtain ⟨j, hj, rfl⟩ := List.getElem_of_mem hx
  have := h j hj
  simp only [rd_T55, Int.toNat_natCast, List.getD_eq_getElem?_getD, List.getElem?_eq_getElem hj, Option.getD_some] at this
  simpa using this
theorem place_some {l : List S55} {t : Int} {k : Nat} (hk : k < l.length) (h0 : (rd_T55 l k).f0 = t) (h : ∀ j : Nat, j < k → (rd_T55 l j).f0 ≠ t) : place l t = some k := by
  unfold place
  rw [List.findIdx?_eq_some_iff_getElem]
  refine ⟨hk, ?_, fun j hj => ?_⟩
  · simp only [rd_T55, Int.toNat_natCast, List.getD_eq_getElem?_getD, List.getElem?_eq_getElem hk, Option.getD_some] at h0
    simpa using h0
  · have := h j hj
    have hjl : j < l.length := by omega
    simp only [rd_T55, Int.toNat_natCast, List.getD_eq_getElem?_getD, List.getElem?_eq_getElem hjl, Option.getD_some] at this
    simpa using this
/-- What goes on, the epochs that are over, the last ticket. -/
structure St where
  l : List S55
  past : Int
  last : Int
def St.bgn (s : St) : St := if s.l.length < 64 then ⟨s.l ++ [⟨s.last + 1, s.past + 1⟩], s.past, s.last + 1⟩ else s
/-- What is left behind the end of a ticket. -/
def ended (l : List S55) (t : Int) : List S55 := match place l t with | none => l | some k => l.eraseIdx k
def St.fin (s : St) (t : Int) : St := ⟨ended s.l t, s.past, s.last⟩
def St.adv (s : St) : St := ⟨s.l, s.past + 1, s.last⟩
def St.step (s : St) (k n : Int) : St := if k = 1 then s.bgn else if k = 2 then s.fin n else if k = 3 then s.adv else s
/-- Behind n steps. -/
structure St.Ok (n : Nat) (s : St) : Prop where
  past : 0 ≤ s.past ∧ s.past ≤ n
  last : 0 ≤ s.last ∧ s.last ≤ n
  len : s.l.length ≤ 64
  rise : s.l.Pairwise fun a b => a.f0 < b.f0 ∧ a.f1 ≤ b.f1
  all : ∀ x ∈ s.l, (1 ≤ x.f0 ∧ x.f0 ≤ s.last) ∧ 1 ≤ x.f1 ∧ x.f1 ≤ s.past + 1
theorem ended_sub (l : List S55) (t : Int) : (ended l t).Sublist l := by
  unfold ended
  split
  · exact List.Sublist.refl _
  · exact List.eraseIdx_sublist _ _
theorem St.Ok.more {n m : Nat} {s : St} (h : s.Ok n) (hm : n ≤ m) : s.Ok m := ⟨⟨h.past.1, by have := h.past.2; omega⟩, ⟨h.last.1, by have := h.last.2; omega⟩, h.len, h.rise, h.all⟩
theorem St.Ok.new : (⟨[], 0, 0⟩ : St).Ok 0 := ⟨by simp, by simp, by simp, List.Pairwise.nil, by simp⟩
theorem St.Ok.bgn {n : Nat} {s : St} (h : s.Ok n) : s.bgn.Ok (n + 1) := by
  unfold St.bgn
  split
  case isFalse => exact h.more (by omega)
  case isTrue hl =>
    have hp := h.past
    have hq := h.last
    refine ⟨⟨hp.1, ?_⟩, ⟨?_, ?_⟩, ?_, ?_, ?_⟩
    · show s.past ≤ _
      omega
    · show 0 ≤ s.last + 1
      omega
    · show s.last + 1 ≤ _
      omega
    · simp only [List.length_append, List.length_cons, List.length_nil]; omega
    · rw [List.pairwise_append]
      refine ⟨h.rise, List.pairwise_singleton _ _, fun a ha b hb => ?_⟩
      obtain rfl := List.mem_singleton.1 hb
      have := h.all a ha
      exact ⟨by show a.f0 < s.last + 1; omega, by show a.f1 ≤ s.past + 1; omega⟩
    · intro x hx
      rcases List.mem_append.1 hx with hx | hx
      · have := h.all x hx
        exact ⟨⟨this.1.1, by show x.f0 ≤ s.last + 1; omega⟩, this.2⟩
      · obtain rfl := List.mem_singleton.1 hx
        exact ⟨⟨by show 1 ≤ s.last + 1; omega, Int.le_refl _⟩, by show 1 ≤ s.past + 1; omega, Int.le_refl _⟩
theorem St.Ok.fin {n : Nat} {s : St} (h : s.Ok n) (t : Int) : (s.fin t).Ok (n + 1) :=
  ⟨⟨h.past.1, by have := h.past.2; show s.past ≤ _; omega⟩, ⟨h.last.1, by have := h.last.2; show s.last ≤ _; omega⟩, Nat.le_trans (ended_sub s.l t).length_le h.len, h.rise.sublist (ended_sub s.l t), fun x hx => h.all x ((ended_sub s.l t).subset hx)⟩
theorem St.Ok.adv {n : Nat} {s : St} (h : s.Ok n) : s.adv.Ok (n + 1) :=
  ⟨⟨by have := h.past.1; show 0 ≤ s.past + 1; omega, by have := h.past.2; show s.past + 1 ≤ _; omega⟩, ⟨h.last.1, by have := h.last.2; show s.last ≤ _; omega⟩, h.len, h.rise, fun x hx => by have := h.all x hx; exact ⟨this.1, this.2.1, by show x.f1 ≤ s.past + 1 + 1; omega⟩⟩
theorem St.Ok.step {n : Nat} {s : St} (h : s.Ok n) (k m : Int) : (s.step k m).Ok (n + 1) := by
  unfold St.step
  split
  · exact h.bgn
  · split
    · exact h.fin m
    · split
      · exact h.adv
      · exact h.more (by omega)
/-- The document's answer is as the program's. -/
def Agree (s : St) (ts es : List Int) (ep last : Int) : Prop := ts = s.l.map S55.f0 ∧ es = s.l.map S55.f1 ∧ ep = s.past + 1 ∧ last = s.last

-- what waits
theorem waits_map (l : List S55) (e : Int) (h : ∀ x ∈ l, x.f1 ≤ e) : waits l e = l.map S55.f0 := by
  unfold waits
  rw [List.filter_eq_self.2 (fun x hx => decide_eq_true (h x hx))]
theorem waits_sublist {l l' : List S55} (h : l'.Sublist l) (e : Int) : (waits l' e).Sublist (waits l e) := (h.filter _).map _
theorem waits_step {n : Nat} {s : St} (h : s.Ok n) (e : Int) (he : e < s.past + 1) (k m : Int) : (waits (s.step k m).l e).Sublist (waits s.l e) ∧ e < (s.step k m).past + 1 := by
  unfold St.step
  split
  · unfold St.bgn
    split
    · refine ⟨?_, he⟩
      rw [waits_snoc, if_neg (by show ¬ s.past + 1 ≤ e; omega), List.append_nil]
      exact List.Sublist.refl _
    · exact ⟨List.Sublist.refl _, he⟩
  · split
    · exact ⟨waits_sublist (ended_sub _ _) e, he⟩
    · split
      · exact ⟨List.Sublist.refl _, by show e < s.past + 1 + 1; omega⟩
      · exact ⟨List.Sublist.refl _, he⟩
-- the oldest
theorem oldest_min {n : Nat} {s : St} (h : s.Ok n) : oldest s.l s.past ≤ s.past + 1 ∧ ∀ x ∈ s.l, oldest s.l s.past ≤ x.f1 := by
  obtain ⟨l, past, last⟩ := s
  cases l with
  | nil => exact ⟨Int.le_refl _, by simp⟩
  | cons x l =>
    refine ⟨(h.all x (by simp)).2.2, fun y hy => ?_⟩
    rcases List.mem_cons.1 hy with rfl | hy
    · exact Int.le_refl _
    · exact ((List.pairwise_cons.1 h.rise).1 y hy).2
theorem oldest_one {n : Nat} {s : St} (h : s.Ok n) : 1 ≤ oldest s.l s.past := by
  obtain ⟨l, past, last⟩ := s
  cases l with
  | nil => have := h.past.1; show 1 ≤ past + 1; exact (by have : 0 ≤ past := this; omega)
  | cons x l => exact (h.all x (by simp)).2.1
theorem oldest_of {l : List S55} {past e : Int} (h0 : e ≤ past + 1) (h1 : ∀ x ∈ l, e ≤ x.f1) : e ≤ oldest l past := by
  cases l with
  | nil => exact h0
  | cons x l => exact h1 x (by simp)
theorem oldest_step {n : Nat} {s : St} (h : s.Ok n) (k m : Int) : oldest s.l s.past ≤ oldest (s.step k m).l (s.step k m).past := by
  obtain ⟨h0, h1⟩ := oldest_min h
  unfold St.step
  split
  · unfold St.bgn
    split
    · refine oldest_of h0 (fun x hx => ?_)
      rcases List.mem_append.1 hx with hx | hx
      · exact h1 x hx
      · obtain rfl := List.mem_singleton.1 hx
        exact h0
    · exact Int.le_refl _
  · split
    · exact oldest_of h0 (fun x hx => h1 x ((ended_sub _ _).subset hx))
    · split
      · exact oldest_of (by show _ ≤ s.past + 1 + 1; omega) h1
      · exact Int.le_refl _
theorem oldest_ready {n : Nat} {s : St} (h : s.Ok n) : (oldest s.l s.past < s.past + 1 → ready s.l s.past (oldest s.l s.past) = false) ∧ ready s.l s.past (oldest s.l s.past - 1) = true := by
  obtain ⟨h0, h1⟩ := oldest_min h
  refine ⟨fun hlt => ?_, ?_⟩
  · obtain ⟨l, past, last⟩ := s
    cases l with
    | nil => exact absurd hlt (by show ¬ past + 1 < past + 1; omega)
    | cons x l =>
      unfold ready
      have : 0 < (waits (x :: l) (oldest (x :: l) past)).length := by
        unfold waits oldest
        rw [List.filter_cons_of_pos (by simp)]
        simp
      have e : decide ((waits (x :: l) (oldest (x :: l) past)).length = 0) = false := decide_eq_false (by omega)
      show (_ && decide ((waits (x :: l) (oldest (x :: l) past)).length = 0)) = false
      rw [e, Bool.and_false]
  · unfold ready
    have e : waits s.l (oldest s.l s.past - 1) = [] := by
      unfold waits
      rw [List.filter_eq_nil_iff.2 (fun x hx => by have := h1 x hx; simp; omega)]
      rfl
    rw [e, decide_eq_true (by omega)]; rfl
/-- The document's least epoch. -/
def least (e : Int) (es : List Int) : Int := es.foldl (fun a b => min a b) e
theorem least_cons (e a : Int) (es : List Int) : least e (a :: es) = least (min e a) es := rfl
theorem least_self (e : Int) (es : List Int) (h : ∀ a ∈ es, e ≤ a) : least e es = e := by
  induction es with
  | nil => rfl
  | cons a es ih =>
    rw [least_cons, Int.min_eq_left (h a (by simp))]
    exact ih (fun b hb => h b (by simp [hb]))
theorem least_oldest {n : Nat} {s : St} (h : s.Ok n) : least (s.past + 1) (s.l.map S55.f1) = oldest s.l s.past := by
  obtain ⟨h0, h1⟩ := oldest_min h
  obtain ⟨l, past, last⟩ := s
  cases l with
  | nil => rfl
  | cons x l =>
    show least (min (past + 1) x.f1) (l.map S55.f1) = x.f1
    rw [Int.min_eq_right (show x.f1 ≤ past + 1 from h0)]
    refine least_self _ _ (fun a ha => ?_)
    obtain ⟨y, hy, rfl⟩ := List.mem_map.1 ha
    exact h1 y (by simp [hy])
end Go.Proofs.Ytcmgdnhllkfjcaa.Reg
