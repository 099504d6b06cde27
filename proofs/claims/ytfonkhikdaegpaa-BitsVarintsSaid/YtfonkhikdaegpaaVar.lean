/- Varints, bytes and words as plain lists of numbers: what they are, how they are read. Lemmas without the program; no condition but those typed. -/
import Derived.Laws.BitsLemmas
namespace Go.Proofs.Ytfonkhikdaegpaa.Var

/-! Varints as plain lists of numbers. -/

/-- A value's groups. -/
def vi (v : Nat) : List Int := if h : v ≥ 128 then ((v % 128 + 128 : Nat) : Int) :: vi (v / 128) else [(v : Int)]
termination_by v
decreasing_by omega

theorem vi_big {v : Nat} (h : v ≥ 128) : vi v = ((v % 128 + 128 : Nat) : Int) :: vi (v / 128) := by
  rw [vi, dif_pos h]
theorem vi_small {v : Nat} (h : v < 128) : vi v = [(v : Int)] := by
  rw [vi, dif_neg (by omega)]

theorem vi_ind {P : Nat → Prop} (big : ∀ v, v ≥ 128 → P (v / 128) → P v) (small : ∀ v, v < 128 → P v) (v : Nat) : P v := by
  induction v using Nat.strongRecOn with
  | _ v ih =>
    by_cases h : v ≥ 128
    · exact big v h (ih _ (by omega))
    · exact small v (by omega)

theorem vi_pos (v : Nat) : 0 < (vi v).length := by
  by_cases h : v ≥ 128
  · rw [vi_big h]; simp
  · rw [vi_small (by omega)]; simp

theorem vi_range (v : Nat) : ∀ c ∈ vi v, 0 ≤ c ∧ c < 256 := by
  induction v using vi_ind with
  | big v h ih =>
    rw [vi_big h]; intro c hc
    rcases List.mem_cons.1 hc with rfl | hc
    · omega
    · exact ih c hc
  | small v h =>
    rw [vi_small h]; intro c hc
    simp at hc; subst hc; omega

theorem vi_inj (v w : Nat) (h : vi v = vi w) : v = w := by
  induction v using vi_ind generalizing w with
  | big v hv ih =>
    rw [vi_big hv] at h
    by_cases hw : w ≥ 128
    · rw [vi_big hw] at h
      simp only [List.cons.injEq] at h
      have := ih _ h.2
      omega
    · rw [vi_small (v := w) (by omega)] at h
      simp only [List.cons.injEq] at h
      have := vi_pos (v / 128)
      rw [h.2] at this; simp at this
  | small v hv =>
    rw [vi_small hv] at h
    by_cases hw : w ≥ 128
    · rw [vi_big hw] at h
      simp only [List.cons.injEq] at h
      have := vi_pos (w / 128)
      rw [← h.2] at this; simp at this
    · rw [vi_small (v := w) (by omega)] at h
      simp at h; omega

theorem vi_len_mono (v w : Nat) (h : v ≤ w) : (vi v).length ≤ (vi w).length := by
  induction v using vi_ind generalizing w with
  | big v hv ih =>
    rw [vi_big hv, vi_big (v := w) (by omega)]
    have := ih (w / 128) (by omega)
    simp only [List.length_cons]; omega
  | small v hv =>
    rw [vi_small hv]
    have := vi_pos w
    simp; omega

theorem vi_len (v : Nat) (n : Nat) (h : v < 2 ^ (7 * n)) (hn : 0 < n) : (vi v).length ≤ n := by
  induction v using vi_ind generalizing n with
  | big v hv ih =>
    rw [vi_big hv]
    obtain ⟨m, rfl⟩ : ∃ m, n = m + 1 := ⟨n - 1, by omega⟩
    have hm : 0 < m := by
      rcases Nat.eq_zero_or_pos m with rfl | hm
      · exfalso; simp at h; omega
      · exact hm
    have : v / 128 < 2 ^ (7 * m) := by
      rw [show 7 * (m + 1) = 7 * m + 7 from by omega, Nat.pow_add] at h
      rw [Nat.div_lt_iff_lt_mul (by decide)]; exact h
    have := ih m this hm
    simp; omega
  | small v hv => rw [vi_small hv]; simp; omega

theorem vi_len64 (v : Nat) (h : v < 2 ^ 64) : (vi v).length ≤ 10 := vi_len v 10 (Nat.lt_of_lt_of_le h (Nat.pow_le_pow_right (by decide) (by decide))) (by decide)

/-- What bytes are read as: value and how many bytes, from place i on with v read so far. -/
def uv : List Int → Nat → Int → Int × Int
  | [], _, _ => (0, 0)
  | c :: rest, i, v =>
    if i ≥ 10 then (0, 0)
    else if c ≥ 128 then uv rest (i + 1) (v + (c - 128) * 2 ^ (7 * i))
    else if i = 9 ∧ c > 1 then (0, 0)
    else if i ≥ 1 ∧ c = 0 then (0, 0)
    else (v + c * 2 ^ (7 * i), (i : Int) + 1)

theorem uv_ten (b : List Int) (i : Nat) (hi : i ≥ 10) (v : Int) : uv b i v = (0, 0) := by
  cases b with
  | nil => rfl
  | cons c rest => rw [uv, if_pos hi]

/-- The groups of a value are read as it was, whatever stands behind. -/
theorem uv_vi (v : Nat) (i : Nat) (x : Int) (behind : List Int) (hv : v < 2 ^ (64 - 7 * i)) (hi : i ≤ 9) (h0 : 0 < i → 0 < v) :
    uv (vi v ++ behind) i x = (x + v * 2 ^ (7 * i), (i : Int) + (vi v).length) := by
  induction v using vi_ind generalizing i x with
  | big v hb ih =>
    have hi8 : i ≤ 8 := by
      rcases Nat.lt_or_ge 8 i with h | h
      · have : i = 9 := by omega
        subst this
        simp at hv; omega
      · exact h
    rw [vi_big hb, List.cons_append, uv, if_neg (by omega), if_pos (by omega)]
    rw [ih (i + 1) _ ?_ (by omega) (fun _ => by omega)]
    · have e7 : 7 * (i + 1) = 7 * i + 7 := by omega
      have hq : (v : Int) = 128 * ((v / 128 : Nat) : Int) + ((v % 128 : Nat) : Int) := by omega
      simp only [Prod.mk.injEq, List.length_cons]
      refine ⟨?_, by push_cast; omega⟩
      rw [e7, Int.pow_add]
      have : ((v % 128 + 128 : Nat) : Int) - 128 = ((v % 128 : Nat) : Int) := by omega
      rw [this]
      generalize (2 : Int) ^ (7 * i) = p at *
      rw [show ((2 : Int) ^ 7) = 128 from rfl]
      generalize ((v / 128 : Nat) : Int) = q at *
      generalize ((v % 128 : Nat) : Int) = r at *
      rw [hq, Int.add_mul, Int.mul_comm 128 q, Int.mul_assoc q 128 p, Int.mul_comm 128 p]
      omega
    · rw [show 64 - 7 * (i + 1) = (64 - 7 * i) - 7 from by omega]
      have : 2 ^ (64 - 7 * i) = 2 ^ (64 - 7 * i - 7) * 2 ^ 7 := by rw [← Nat.pow_add]; congr 1; omega
      rw [this] at hv
      rw [Nat.div_lt_iff_lt_mul (by decide)]; exact hv
  | small v hs =>
    rw [vi_small hs]
    simp only [List.cons_append, uv]
    rw [if_neg (by omega), if_neg (by omega), if_neg ?_, if_neg ?_]
    · simp
    · rintro ⟨h, h'⟩
      have := h0 (by omega); omega
    · rintro ⟨rfl, h'⟩
      simp at hv; omega

/-- No beginning of a value's groups is one. -/
theorem uv_cut (v : Nat) (i : Nat) (x : Int) (n : Nat) (hn : n < (vi v).length) : uv ((vi v).take n) i x = (0, 0) := by
  induction v using vi_ind generalizing i x n with
  | big v hb ih =>
    rw [vi_big hb] at hn ⊢
    cases n with
    | zero => rfl
    | succ n =>
      rw [List.take_succ_cons, uv]
      by_cases h : i ≥ 10
      · rw [if_pos h]
      · rw [if_neg h, if_pos (by omega)]
        exact ih _ _ _ (by simp at hn; omega)
  | small v hs =>
    rw [vi_small hs] at hn ⊢
    have : n = 0 := by simp at hn; omega
    subst this; rfl

/-- The last group with the bit 128, and a nought behind it: none. -/
theorem uv_last (v : Nat) (i : Nat) (x : Int) (l : Int) (hl : l ≥ 128) : uv ((vi v).dropLast ++ [l] ++ [0]) i x = (0, 0) := by
  induction v using vi_ind generalizing i x with
  | big v hb ih =>
    rw [vi_big hb]
    have hne : vi (v / 128) ≠ [] := by have := vi_pos (v / 128); intro h; rw [h] at this; simp at this
    rw [List.dropLast_cons_of_ne_nil hne]
    simp only [List.cons_append]
    rw [uv]
    by_cases h : i ≥ 10
    · rw [if_pos h]
    · rw [if_neg h, if_pos (by omega)]
      exact ih _ _
  | small v hs =>
    rw [vi_small hs]
    simp only [List.dropLast_singleton, List.nil_append, List.cons_append, uv]
    by_cases h : i ≥ 10
    · rw [if_pos h]
    · rw [if_neg h, if_pos hl]
      by_cases h9 : i + 1 ≥ 10
      · rw [if_pos h9]
      · rw [if_neg h9, if_neg (by omega), if_neg (by omega), if_pos ⟨by omega, by decide⟩]

/-- What is read is a number below 2^64, of as many bytes as there are. -/
theorem uv_bounds (b : List Int) (hb : ∀ c ∈ b, 0 ≤ c ∧ c < 256) (i : Nat) (x : Int) (hx0 : 0 ≤ x) (hx : i ≤ 9 → x < 2 ^ (7 * i)) :
    0 ≤ (uv b i x).1 ∧ (uv b i x).1 < 2 ^ 64 ∧ ((uv b i x).2 = 0 ∨ (i : Int) < (uv b i x).2 ∧ (uv b i x).2 ≤ i + b.length) := by
  induction b generalizing i x with
  | nil => simp [uv]
  | cons c rest ih =>
    have hc := hb c (by simp)
    rw [uv]
    by_cases h10 : i ≥ 10
    · rw [if_pos h10]; simp
    rw [if_neg h10]
    have hx' := hx (by omega)
    have hp : (0 : Int) < 2 ^ (7 * i) := Int.pow_pos (by decide)
    by_cases h : c ≥ 128
    · rw [if_pos h]
      have hm : 0 ≤ (c - 128) * 2 ^ (7 * i) := Int.mul_nonneg (by omega) (by omega)
      have hm2 : (c - 128) * 2 ^ (7 * i) ≤ 127 * 2 ^ (7 * i) := Int.mul_le_mul_of_nonneg_right (by omega) (by omega)
      have hg := ih (fun c hc => hb c (by simp [hc])) (i + 1) (x + (c - 128) * 2 ^ (7 * i)) (by omega) (fun _ => by
        rw [show 7 * (i + 1) = 7 * i + 7 from by omega, Int.pow_add]
        have : (2 : Int) ^ 7 = 128 := rfl
        rw [this]; omega)
      refine ⟨hg.1, hg.2.1, ?_⟩
      rcases hg.2.2 with h | h
      · exact .inl h
      · right; simp only [List.length_cons]; push_cast at h ⊢; omega
    · rw [if_neg h]
      by_cases h9 : i = 9 ∧ c > 1
      · rw [if_pos h9]; simp
      rw [if_neg h9]
      by_cases h1 : i ≥ 1 ∧ c = 0
      · rw [if_pos h1]; simp
      rw [if_neg h1]
      have hm : 0 ≤ c * 2 ^ (7 * i) := Int.mul_nonneg (by omega) (by omega)
      refine ⟨by simp only; omega, ?_, ?_⟩
      · simp only
        by_cases e9 : i = 9
        · subst e9
          have : c ≤ 1 := by omega
          have hm2 : c * 2 ^ (7 * 9) ≤ 1 * 2 ^ (7 * 9) := Int.mul_le_mul_of_nonneg_right (by omega) (by omega)
          have : (2 : Int) ^ (7 * 9) = 9223372036854775808 := rfl
          have : (2 : Int) ^ 64 = 18446744073709551616 := rfl
          omega
        · have hm2 : c * 2 ^ (7 * i) ≤ 127 * 2 ^ (7 * i) := Int.mul_le_mul_of_nonneg_right (by omega) (by omega)
          have hle : (2 : Int) ^ (7 * i) * 128 ≤ 2 ^ 64 := by
            have h1 : (2 : Int) ^ (7 * i) * 128 = 2 ^ (7 * i + 7) := by rw [Int.pow_add]; rfl
            rw [h1]
            exact_mod_cast Nat.pow_le_pow_right (n := 2) (by decide) (show 7 * i + 7 ≤ 64 by omega)
          omega
      · right; simp only [List.length_cons]; push_cast; omega

/-! bytes -/
theorem or128 (y : Int) (h0 : 0 ≤ y) (h1 : y < 256) : Go.bits .or .u8 y 128 = y % 128 + 128 := by
  have : ∀ y : Fin 256, Go.bits .or .u8 (y.val : Int) 128 = (y.val : Int) % 128 + 128 := by decide +kernel
  have h := this ⟨y.toNat, by omega⟩
  simp only [Int.toNat_of_nonneg h0] at h
  exact h
theorem and127 (y : Int) (h0 : 0 ≤ y) (h1 : y < 256) : Go.bits .andNot .u8 y 128 = y % 128 := by
  have : ∀ y : Fin 256, Go.bits .andNot .u8 (y.val : Int) 128 = (y.val : Int) % 128 := by decide +kernel
  have h := this ⟨y.toNat, by omega⟩
  simp only [Int.toNat_of_nonneg h0] at h
  exact h
theorem u64_wrap_in (n : Int) (h0 : 0 ≤ n) (h1 : n < 2 ^ 64) : IntKind.u64.wrap n = n := by
  simp [IntKind.wrap, IntKind.bits, IntKind.signed]; omega
theorem u64_wrap_range (n : Int) : 0 ≤ IntKind.u64.wrap n ∧ IntKind.u64.wrap n < 2 ^ 64 := by
  simp [IntKind.wrap, IntKind.bits, IntKind.signed]; omega
theorem bits_or_range (x y : Int) : 0 ≤ Go.bits .or .u64 x y ∧ Go.bits .or .u64 x y < 2 ^ 64 := u64_wrap_range _
/-- Low digits below high ones: a sum. -/
theorem u64_or_add (x y : Int) (j : Nat) (hx0 : 0 ≤ x) (hx : x < 2 ^ j) (hx64 : x < 2 ^ 64) (hy0 : 0 ≤ y) (hs : y * 2 ^ j < 2 ^ 64) : Go.bits .or .u64 x (y * 2 ^ j) = x + y * 2 ^ j := by
  obtain ⟨a, rfl⟩ := Int.eq_ofNat_of_zero_le hx0
  obtain ⟨b, rfl⟩ := Int.eq_ofNat_of_zero_le hy0
  have hb : b * 2 ^ j < 2 ^ 64 := by exact_mod_cast hs
  have ha' : a < 2 ^ j := by exact_mod_cast hx
  have ha : a < 2 ^ 64 := by exact_mod_cast hx64
  have := (bits_nat .u64 64 (by decide) (fun n h0 h1 => u64_wrap_in n h0 h1) a (b * 2 ^ j) ha hb).2
  have h2 : ((b * 2 ^ j : Nat) : Int) = (b : Int) * 2 ^ j := by push_cast; rfl
  rw [← h2, this]
  rw [Nat.or_comm, Nat.mul_comm b, ← Nat.two_pow_add_eq_or_of_lt ha']
  push_cast; omega
/-! Bytes as words, words as bytes. -/

/-- The number of bytes, the least first. -/
def wd : List Int → Int
  | [] => 0
  | c :: cs => c + 256 * wd cs
/-- Bytes as words of eight. -/
def ws (b : List Int) : List Int := if _h : b = [] then [] else wd (b.take 8) :: ws (b.drop 8)
termination_by b.length
decreasing_by have : 0 < b.length := List.length_pos_iff.2 ‹_›; simp; omega
/-- A number's first n bytes. -/
def layN : Nat → Int → List Int
  | 0, _ => []
  | n + 1, x => x % 256 :: layN n (x / 256)
/-- Words' bytes. -/
def bs (w : List Int) : List Int := w.flatMap (layN 8)

theorem pow_mono (a : Nat) {m n : Nat} (h : m ≤ n) (ha : 0 < a) : (a : Int) ^ m ≤ (a : Int) ^ n := by
  have := Nat.pow_le_pow_right ha h
  exact_mod_cast this
theorem ws_nil : ws [] = [] := by rw [ws, dif_pos rfl]
theorem ws_cons {b : List Int} (h : b ≠ []) : ws b = wd (b.take 8) :: ws (b.drop 8) := by rw [ws, dif_neg h]
theorem ws_ind {P : List Int → Prop} (nil : P []) (step : ∀ b, b ≠ [] → P (b.drop 8) → P b) (b : List Int) : P b := by
  induction h : b.length using Nat.strongRecOn generalizing b with
  | _ n ih =>
    by_cases e : b = []
    · rw [e]; exact nil
    · have : 0 < b.length := List.length_pos_iff.2 e
      exact step b e (ih _ (by simp; omega) _ rfl)
theorem ws_len (b : List Int) : (ws b).length = (b.length + 7) / 8 := by
  induction b using ws_ind with
  | nil => simp [ws_nil]
  | step b h ih =>
    have : 0 < b.length := List.length_pos_iff.2 h
    rw [ws_cons h, List.length_cons, ih, List.length_drop]; omega

theorem wd_range (c : List Int) (h : ∀ x ∈ c, 0 ≤ x ∧ x < 256) : 0 ≤ wd c ∧ wd c < 256 ^ c.length := by
  induction c with
  | nil => simp [wd]
  | cons x c ih =>
    have hx := h x (by simp)
    have := ih (fun y hy => h y (by simp [hy]))
    rw [wd, List.length_cons, Int.pow_succ]
    omega
theorem wd_snoc (c : List Int) (x : Int) : wd (c ++ [x]) = wd c + x * 256 ^ c.length := by
  induction c with
  | nil => simp [wd]
  | cons y c ih =>
    rw [List.cons_append, wd, ih, wd, List.length_cons, Int.pow_succ, Int.mul_add]
    generalize (256 : Int) ^ c.length = p
    rw [show x * (p * 256) = 256 * (x * p) from by rw [← Int.mul_assoc, Int.mul_comm]]
    omega
theorem layN_len (n : Nat) (x : Int) : (layN n x).length = n := by
  induction n generalizing x with
  | zero => rfl
  | succ n ih => rw [layN, List.length_cons, ih]
theorem layN_wd (c : List Int) (h : ∀ x ∈ c, 0 ≤ x ∧ x < 256) (n : Nat) (hn : c.length ≤ n) : layN n (wd c) = c ++ List.replicate (n - c.length) 0 := by
  induction c generalizing n with
  | nil =>
    induction n with
    | zero => rfl
    | succ n ih =>
      have := ih (by simp)
      simp only [wd, List.length_nil, Nat.sub_zero, List.nil_append] at this ⊢
      rw [layN, List.replicate_succ, Int.zero_ediv, this]; rfl
  | cons x c ih =>
    obtain ⟨n, rfl⟩ : ∃ m, n = m + 1 := ⟨n - 1, by simp at hn; omega⟩
    have hx := h x (by simp)
    rw [wd, layN, show (x + 256 * wd c) % 256 = x from by omega, show (x + 256 * wd c) / 256 = wd c from by omega, ih (fun y hy => h y (by simp [hy])) n (by simp at hn; omega)]
    simp
theorem layN_get (n : Nat) (x : Int) (i : Nat) (hi : i < n) : (layN n x)[i]'(by rw [layN_len]; exact hi) = x / 256 ^ i % 256 := by
  induction n generalizing x i with
  | zero => omega
  | succ n ih =>
    cases i with
    | zero => simp [layN]
    | succ i =>
      simp only [layN, List.getElem_cons_succ]
      rw [ih _ _ (by omega), Int.pow_succ, Int.mul_comm, ← Int.ediv_ediv_of_nonneg (by decide)]
theorem layN_range (n : Nat) (x : Int) : ∀ c ∈ layN n x, 0 ≤ c ∧ c < 256 := by
  induction n generalizing x with
  | zero => simp [layN]
  | succ n ih =>
    intro c hc
    rw [layN] at hc
    rcases List.mem_cons.1 hc with rfl | hc
    · omega
    · exact ih _ c hc
theorem wd_layN (n : Nat) (x : Int) (h0 : 0 ≤ x) (h : x < 256 ^ n) : wd (layN n x) = x := by
  induction n generalizing x with
  | zero => simp at h; rw [layN, wd]; omega
  | succ n ih =>
    rw [Int.pow_succ] at h
    rw [layN, wd, ih (x / 256) (by omega) (by omega)]; omega
theorem bs_cons (x : Int) (w : List Int) : bs (x :: w) = layN 8 x ++ bs w := by simp [bs]
theorem bs_len (w : List Int) : (bs w).length = 8 * w.length := by
  induction w with
  | nil => rfl
  | cons x w ih => rw [bs_cons, List.length_append, layN_len, ih, List.length_cons]; omega
theorem bs_range (w : List Int) : ∀ c ∈ bs w, 0 ≤ c ∧ c < 256 := by
  intro c hc
  obtain ⟨x, _, h⟩ := List.mem_flatMap.1 hc
  exact layN_range 8 x c h
theorem bs_get (w : List Int) (i : Nat) (hi : i < 8 * w.length) : (bs w)[i]'(by rw [bs_len]; exact hi) = w[i / 8]'(by omega) / 256 ^ (i % 8) % 256 := by
  induction w generalizing i with
  | nil => simp at hi
  | cons x w ih =>
    simp only [bs_cons]
    by_cases h : i < 8
    · rw [List.getElem_append_left (by rw [layN_len]; exact h), layN_get _ _ _ h]
      have e1 : i / 8 = 0 := by omega
      have e2 : i % 8 = i := by omega
      simp only [e1, e2, List.getElem_cons_zero]
    · rw [List.getElem_append_right (by rw [layN_len]; omega)]
      simp only [layN_len]
      rw [ih (i - 8) (by simp only [List.length_cons] at hi; omega)]
      have e1 : i / 8 = (i - 8) / 8 + 1 := by omega
      have e2 : (i - 8) % 8 = i % 8 := by omega
      simp only [e1, e2, List.getElem_cons_succ]
theorem bs_ws (b : List Int) (h : ∀ x ∈ b, 0 ≤ x ∧ x < 256) : bs (ws b) = b ++ List.replicate (8 * ((b.length + 7) / 8) - b.length) 0 := by
  induction b using ws_ind with
  | nil => simp [ws_nil, bs]
  | step b hb ih =>
    have hp : 0 < b.length := List.length_pos_iff.2 hb
    rw [ws_cons hb, bs_cons, layN_wd _ (fun x hx => h x (List.take_subset _ _ hx)) 8 (by simp; omega), ih (fun x hx => h x (List.drop_subset _ _ hx))]
    by_cases h8 : b.length ≤ 8
    · rw [List.take_of_length_le h8, List.drop_eq_nil_of_le h8]
      simp
      omega
    · have e : (b.take 8).length = 8 := by simp; omega
      rw [e]
      simp only [Nat.sub_self, List.replicate_zero, List.append_nil]
      rw [← List.append_assoc, List.take_append_drop, List.length_drop]
      congr 2; omega
/-- One byte more. -/
theorem ws_snoc (b : List Int) (x : Int) : ws (b ++ [x]) = if b.length % 8 = 0 then ws b ++ [x] else (ws b).set (b.length / 8) ((ws b).getD (b.length / 8) 0 + x * 256 ^ (b.length % 8)) := by
  induction b using ws_ind with
  | nil => rw [List.nil_append, ws_cons (by simp), if_pos (by simp), ws_nil]; simp [wd, ws_nil]
  | step b hb ih =>
    have hp : 0 < b.length := List.length_pos_iff.2 hb
    rw [ws_cons (b := b ++ [x]) (by simp), ws_cons hb]
    by_cases h8 : b.length < 8
    · rw [List.take_of_length_le (by simp; omega), List.drop_eq_nil_of_le (by simp; omega), ws_nil, if_neg (by omega), List.drop_eq_nil_of_le (by omega), ws_nil, List.take_of_length_le (by omega)]
      have e1 : b.length / 8 = 0 := by omega
      have e2 : b.length % 8 = b.length := by omega
      rw [e1, e2, wd_snoc]; rfl
    · rw [List.take_append_of_le_length (by omega), List.drop_append_of_le_length (by omega), ih, List.length_drop]
      have e2 : (b.length - 8) % 8 = b.length % 8 := by omega
      rw [e2]
      split
      · rfl
      · have e1 : b.length / 8 = (b.length - 8) / 8 + 1 := by omega
        rw [e1]; simp
theorem ws_range (b : List Int) (h : ∀ x ∈ b, 0 ≤ x ∧ x < 256) : ∀ y ∈ ws b, 0 ≤ y ∧ y < 2 ^ 64 := by
  induction b using ws_ind with
  | nil => simp [ws_nil]
  | step b hb ih =>
    rw [ws_cons hb]
    intro y hy
    rcases List.mem_cons.1 hy with rfl | hy
    · have := wd_range (b.take 8) (fun x hx => h x (List.take_subset _ _ hx))
      refine ⟨this.1, Int.lt_of_lt_of_le this.2 ?_⟩
      have h8 : (b.take 8).length ≤ 8 := by simp; omega
      have := pow_mono 256 h8 (by decide)
      exact this
    · exact ih (fun x hx => h x (List.drop_subset _ _ hx)) y hy
/-- The last word, while it is being filled, is below what it is filled to. -/
theorem ws_last (b : List Int) (h : ∀ x ∈ b, 0 ≤ x ∧ x < 256) (hm : b.length % 8 ≠ 0) : 0 ≤ (ws b).getD (b.length / 8) 0 ∧ (ws b).getD (b.length / 8) 0 < 256 ^ (b.length % 8) := by
  induction b using ws_ind with
  | nil => simp at hm
  | step b hb ih =>
    rw [ws_cons hb]
    by_cases h8 : b.length < 8
    · have e1 : b.length / 8 = 0 := by omega
      have e2 : b.length % 8 = b.length := by omega
      rw [e1, e2, List.take_of_length_le (by omega)]
      exact wd_range b h
    · have e1 : b.length / 8 = (b.length - 8) / 8 + 1 := by omega
      have e2 : (b.length - 8) % 8 = b.length % 8 := by omega
      have := ih (fun x hx => h x (List.drop_subset _ _ hx)) (by rw [List.length_drop]; omega)
      rw [List.length_drop, e2] at this
      rw [e1]; simpa using this
theorem pow256 (n : Nat) : (256 : Int) ^ n = 2 ^ (8 * n) := by rw [Int.pow_mul]; rfl

/-- A byte laid into a word. -/
theorem or_at (x c : Int) (r : Nat) (hr : r < 8) (h0 : 0 ≤ x) (h1 : x < 256 ^ r) (c0 : 0 ≤ c) (c1 : c < 256) : Go.bits .or .u64 x (IntKind.u64.wrap (c * 2 ^ (8 * r))) = x + c * 256 ^ r := by
  rw [pow256] at h1 ⊢
  have hp : (0 : Int) < 2 ^ (8 * r) := Int.pow_pos (by decide)
  have hm0 : 0 ≤ c * 2 ^ (8 * r) := Int.mul_nonneg c0 (by omega)
  have h64 : (2 : Int) ^ (8 * r) * 256 ≤ 2 ^ 64 := by
    have h1 : (2 : Int) ^ (8 * r) * 256 = 2 ^ (8 * r + 8) := by rw [Int.pow_add]; rfl
    rw [h1]
    exact pow_mono 2 (show 8 * r + 8 ≤ 64 by omega) (by decide)
  have h2 : c * 2 ^ (8 * r) ≤ 255 * 2 ^ (8 * r) := Int.mul_le_mul_of_nonneg_right (by omega) (by omega)
  rw [u64_wrap_in _ hm0 (by omega), u64_or_add _ _ _ h0 h1 (by omega) c0 (by omega)]
end Go.Proofs.Ytfonkhikdaegpaa.Var
