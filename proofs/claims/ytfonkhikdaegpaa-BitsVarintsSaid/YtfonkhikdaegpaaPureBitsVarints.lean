/- BitsVarints (chapter 1): any value is laid as a varint; any bytes are read as the varint, the text that they begin with, or refused. Proved for every value, text and bytes, no further condition. -/
import Derived.Test.YtfonkhikdaegpaaPBitsVarintsx4
import Derived.Test.YtfonkhikdaegpaaVar
namespace Go.Proofs.Ytfonkhikdaegpaa.Pure
open Go.RowKit Go.Proofs.Ytfonkhikdaegpaa.PBitsVarints Go.Proofs.YtfonkhikdaegpaaW.PrintWords Go.Proofs.YtfonkhikdaegpaaW.PrintLast Go.Proofs.YtfonkhikdaegpaaW.PrintMore Go.Proofs.Ytfonkhikdaegpaa.Var
namespace BitsVarintsAid
theorem awake_true : dolmenlaw1_awake.f 10 = some true := by decide +kernel


theorem varint_l (v : Nat) (acc : List Int) (k : Nat) (hk : (vi v).length ≤ k) (ha : acc.length + (vi v).length < 140737488355328) :
    bits_Varint.l0 k (v : Int) acc = some (acc ++ vi v) := by
  induction v using vi_ind generalizing acc k with
  | big v hb ih =>
    rw [vi_big hb] at hk ha ⊢
    obtain ⟨k, rfl⟩ : ∃ m, k = m + 1 := ⟨k - 1, by simp only [List.length_cons] at hk; omega⟩
    simp only [List.length_cons] at hk ha
    simp only [bits_Varint.l0]
    rw [if_pos (by omega), if_pos (by omega), or128 _ (by omega) (by omega)]
    rw [show (v : Int) / 128 = ((v / 128 : Nat) : Int) from by omega, ih _ k (by omega) (by simp; omega)]
    rw [List.append_assoc, List.singleton_append]
    congr 3; omega
  | small v hs =>
    rw [vi_small hs] at hk ha ⊢
    obtain ⟨k, rfl⟩ : ∃ m, k = m + 1 := ⟨k - 1, by simp at hk; omega⟩
    simp only [bits_Varint.l0]
    rw [if_neg (by omega), if_pos (by simp at ha; omega)]
    congr 3; omega
theorem varint_f (v : Nat) (hv : v < 2 ^ 64) (k : Nat) (hk : 10 ≤ k) : bits_Varint.f k (v : Int) = some (vi v) := by
  unfold bits_Varint.f
  have := vi_len64 v hv
  rw [varint_l v [] k (by omega) (by simp; omega)]; rfl


theorem unvarint_l (b : List Int) (hb : ∀ c ∈ b, 0 ≤ c ∧ c < 256) (d : Nat) : ∀ (i : Nat) (v : Int) (k : Nat), i ≤ b.length → i ≤ 10 → 10 - i = d → 0 ≤ v → v < 2 ^ 64 → (i ≤ 9 → v < 2 ^ (7 * i)) → 3 * d + 3 ≤ k →
    bits_Unvarint.l0 k b v (i : Int) = some (uv (b.drop i) i v) := by
  induction d with
  | zero =>
    intro i v k hi h10 hd h0 h64 hv hk
    obtain ⟨k, rfl⟩ : ∃ m, k = m + 1 := ⟨k - 1, by omega⟩
    obtain ⟨k, rfl⟩ : ∃ m, k = m + 1 := ⟨k - 1, by omega⟩
    rw [bits_Unvarint.l0, if_neg (by omega), bits_Unvarint.j1, if_neg (by simp), uv_ten _ _ (by omega)]
  | succ d ih =>
    intro i v k hi h10 hd h0 h64 hv hk
    obtain ⟨k, rfl⟩ : ∃ m, k = m + 1 := ⟨k - 1, by omega⟩
    obtain ⟨k, rfl⟩ : ∃ m, k = m + 1 := ⟨k - 1, by omega⟩
    obtain ⟨k, rfl⟩ : ∃ m, k = m + 1 := ⟨k - 1, by omega⟩
    rw [bits_Unvarint.l0, if_pos (by omega), bits_Unvarint.j1]
    by_cases hl : i < b.length
    · have hc := hb b[i] (List.getElem_mem hl)
      have hrd : rd b (i : Int) = b[i] := by simp [rd, hl]
      have hdrop : b.drop i = b[i] :: b.drop (i + 1) := List.drop_eq_getElem_cons hl
      have hw1 : wrap64 (7 * (i : Int)) = 7 * i := by unfold wrap64; omega
      have hw2 : wrap64 ((i : Int) + 1) = ((i + 1 : Nat) : Int) := by unfold wrap64; omega
      rw [if_pos (by simp; omega), if_pos (by omega), if_pos (by omega), hw1, if_pos (by omega), hrd, hw2, hdrop, uv, if_neg (show ¬ i ≥ 10 by omega)]
      rw [and127 _ hc.1 hc.2, u64_wrap_in (b[i] % 128) (by omega) (by omega)]
      have hi' := hv (by omega)
      have hsh : shl .u64 (b[i] % 128) (7 * (i : Int)) = IntKind.u64.wrap ((b[i] % 128) * 2 ^ (7 * i)) := by
        unfold shl
        have : min (7 * (i : Int)).toNat IntKind.u64.bits = 7 * i := by
          have : (7 * (i : Int)).toNat = 7 * i := by omega
          rw [this]; apply Nat.min_eq_left; show _ ≤ 64; omega
        rw [this]
      rw [hsh]
      have hp : (0 : Int) < 2 ^ (7 * i) := Int.pow_pos (by decide)
      have hm0 : 0 ≤ b[i] % 128 * 2 ^ (7 * i) := Int.mul_nonneg (by omega) (by omega)
      have hm1 : i ≤ 8 ∨ b[i] % 128 ≤ 1 → b[i] % 128 * 2 ^ (7 * i) < 2 ^ 64 := by
        intro h
        rcases h with h | h
        · have h1 : b[i] % 128 * 2 ^ (7 * i) ≤ 127 * 2 ^ (7 * i) := Int.mul_le_mul_of_nonneg_right (by omega) (by omega)
          have hle : (2 : Int) ^ (7 * i) * 128 ≤ 2 ^ 64 := by
            have h1 : (2 : Int) ^ (7 * i) * 128 = 2 ^ (7 * i + 7) := by rw [Int.pow_add]; rfl
            rw [h1]
            exact_mod_cast Nat.pow_le_pow_right (n := 2) (by decide) (show 7 * i + 7 ≤ 64 by omega)
          omega
        · have h1 : b[i] % 128 * 2 ^ (7 * i) ≤ 1 * 2 ^ (7 * i) := Int.mul_le_mul_of_nonneg_right (by omega) (by omega)
          have hle : (2 : Int) ^ (7 * i) ≤ 2 ^ 63 := by exact_mod_cast Nat.pow_le_pow_right (n := 2) (by decide) (show 7 * i ≤ 63 by omega)
          have : (2 : Int) ^ 63 = 9223372036854775808 := rfl
          have : (2 : Int) ^ 64 = 18446744073709551616 := rfl
          omega
      have hv' : i ≤ 8 ∨ b[i] % 128 ≤ 1 → Go.bits .or .u64 v (IntKind.u64.wrap (b[i] % 128 * 2 ^ (7 * i))) = v + b[i] % 128 * 2 ^ (7 * i) := by
        intro h
        rw [u64_wrap_in _ hm0 (hm1 h), u64_or_add _ _ _ h0 hi' h64 (by omega) (hm1 h)]
      by_cases hbig : b[i] ≥ 128
      · rw [if_pos hbig, if_pos hbig]
        by_cases h8 : i ≤ 8
        · rw [hv' (.inl h8), ih (i + 1) _ _ (by omega) (by omega) (by omega) (by omega) ?_ ?_ (by omega)]
          · congr 2; congr 1; rw [show b[i] % 128 = b[i] - 128 from by omega]
          · have := hm1 (.inl h8)
            have hle : (v + b[i] % 128 * 2 ^ (7 * i) : Int) < 2 ^ (7 * i + 7) := by
              have h1 : b[i] % 128 * 2 ^ (7 * i) ≤ 127 * 2 ^ (7 * i) := Int.mul_le_mul_of_nonneg_right (by omega) (by omega)
              rw [Int.pow_add]
              have : (2 : Int) ^ 7 = 128 := rfl
              rw [this]; omega
            have : (2 : Int) ^ (7 * i + 7) ≤ 2 ^ 64 := by exact_mod_cast Nat.pow_le_pow_right (n := 2) (by decide) (show 7 * i + 7 ≤ 64 by omega)
            omega
          · intro _
            have h1 : b[i] % 128 * 2 ^ (7 * i) ≤ 127 * 2 ^ (7 * i) := Int.mul_le_mul_of_nonneg_right (by omega) (by omega)
            rw [show 7 * (i + 1) = 7 * i + 7 from by omega, Int.pow_add]
            have : (2 : Int) ^ 7 = 128 := rfl
            rw [this]; omega
        · have e9 : i = 9 := by omega
          have hr := bits_or_range v (IntKind.u64.wrap (b[i] % 128 * 2 ^ (7 * i)))
          rw [ih (i + 1) _ _ (by omega) (by omega) (by omega) hr.1 hr.2 (fun h => by omega) (by omega), uv_ten _ _ (by omega), uv_ten _ _ (by omega)]
      · rw [if_neg hbig, if_neg hbig]
        have hmod : b[i] % 128 = b[i] := by omega
        rw [hmod] at hv' ⊢
        by_cases h9 : i = 9
        · rw [if_pos (by omega)]
          by_cases h1 : b[i] > 1
          · simp only [bits_Unvarint.j2]
            rw [if_pos (by simpa using h1), if_pos ⟨h9, h1⟩]
          · simp only [bits_Unvarint.j2]
            rw [if_neg (by simpa using h1), if_neg (show ¬ (i = 9 ∧ b[i] > 1) from fun h => h1 h.2), if_pos (by omega)]
            by_cases hz : b[i] = 0
            · rw [if_pos hz, if_pos ⟨by omega, hz⟩]
            · rw [if_neg hz, if_neg (fun h => hz h.2), hv' (.inr (by omega))]
              simp
        · rw [if_neg (by omega)]
          simp only [bits_Unvarint.j2]
          rw [if_neg (by simp), if_neg (show ¬ (i = 9 ∧ b[i] > 1) from fun h => h9 h.1)]
          by_cases h1 : 1 ≤ i
          · rw [if_pos (by omega)]
            by_cases hz : b[i] = 0
            · rw [if_pos hz, if_pos ⟨by omega, hz⟩]
            · rw [if_neg hz, if_neg (fun h => hz h.2), hv' (.inl (by omega))]
              simp
          · rw [if_neg (by omega), if_neg (show ¬ (i ≥ 1 ∧ b[i] = 0) from fun h => h1 h.1), hv' (.inl (by omega))]
            simp
    · rw [if_neg (by simp; omega), List.drop_eq_nil_of_le (by omega)]
      rfl
theorem unvarint_f (b : List Int) (hb : ∀ c ∈ b, 0 ≤ c ∧ c < 256) (k : Nat) (hk : 33 ≤ k) : bits_Unvarint.f k b = some (uv b 0 0) := by
  unfold bits_Unvarint.f
  have := unvarint_l b hb 10 0 0 k (by omega) (by omega) (by omega) (by omega) (by decide) (fun _ => by decide) (by omega)
  simpa using this

/-- What Untext tells. -/
def untextIs (l : List Int) : ByteArray × Int × Option Int :=
  if (uv l 0 0).2 = 0 ∨ (uv l 0 0).1 > (l.length : Int) - (uv l 0 0).2 then (⟨#[]⟩, 0, some 14)
  else (strOfNums ((l.take ((uv l 0 0).2 + (uv l 0 0).1).toNat).drop (uv l 0 0).2.toNat), (uv l 0 0).2 + (uv l 0 0).1, none)
theorem wrap_id (n : Int) (h0 : 0 ≤ n) (h1 : n < 4611686018427387904) : wrap64 n = n := by unfold wrap64; omega
theorem untext_f (l : List Int) (hb : ∀ c ∈ l, 0 ≤ c ∧ c < 256) (hl : l.length ≤ 100000000) (k : Nat) (hk : 33 ≤ k) : bits_Untext.f k l = some (untextIs l) := by
  have hu := uv_bounds l hb 0 0 (by decide) (fun _ => by decide)
  unfold bits_Untext.f untextIs
  rw [unvarint_f l hb k hk, Option.bind_some]
  generalize uv l 0 0 = p at hu
  obtain ⟨x, n⟩ := p
  simp only at hu ⊢
  by_cases hn : n = 0
  · rw [if_pos hn, if_pos (.inl hn)]
  have hn1 : 0 < n ∧ n ≤ l.length := by omega
  rw [if_neg hn, wrap_id ((l.length : Int) - n) (by omega) (by omega), u64_wrap_in _ (by omega) (by omega)]
  by_cases hx : x > (l.length : Int) - n
  · rw [if_pos hx, if_pos (.inr hx)]
  · rw [if_neg hx, wrap_id x (by omega) (by omega), wrap_id (n + x) (by omega) (by omega), if_pos (by omega), if_pos (by omega), if_pos (by omega), if_neg (by omega)]
theorem text_f (s : ByteArray) (hs : s.size ≤ 100000) (k : Nat) (hk : 10 ≤ k) : bits_Text.f k s = some (vi s.size ++ bytesOf s) := by
  unfold bits_Text.f
  have := vi_len64 s.size (by omega)
  rw [u64_wrap_in _ (by omega) (by omega), varint_f s.size (by omega) k hk, Option.bind_some, if_pos (by omega)]
theorem bytesOf_len (s : ByteArray) : (bytesOf s).length = s.size := by simp [bytesOf]
theorem bytesOf_range (s : ByteArray) : ∀ c ∈ bytesOf s, 0 ≤ c ∧ c < 256 := by
  intro c hc
  simp [bytesOf] at hc
  obtain ⟨u, _, rfl⟩ := hc
  have := u.toNat_lt
  omega
theorem str_bytesOf (s : ByteArray) : strOfNums (bytesOf s) = s := by
  cases s with
  | mk d =>
    simp only [strOfNums, bytesOf, List.map_map]
    congr 1
    cases d with
    | mk l =>
      simp
      conv => rhs; rw [← List.map_id l]
      apply List.map_congr_left
      intro u _
      simp
theorem range_append {a b : List Int} (ha : ∀ c ∈ a, 0 ≤ c ∧ c < 256) (hb : ∀ c ∈ b, 0 ≤ c ∧ c < 256) : ∀ c ∈ a ++ b, 0 ≤ c ∧ c < 256 := by
  intro c hc
  rcases List.mem_append.1 hc with h | h
  · exact ha c h
  · exact hb c h

theorem or128b (y : Nat) : Go.bits .or .u64 (Go.bits .and .u64 (y : Int) 127) 128 % 256 = ((y % 128 + 128 : Nat) : Int) ∨ y ≥ 2 ^ 64 := by
  by_cases h : y ≥ 2 ^ 64
  · exact .inr h
  left
  have h1 : Go.bits .and .u64 (y : Int) 127 = ((y % 128 : Nat) : Int) := by
    have := bits_mask .u64 64 (by decide) (fun n h0 h1 => u64_wrap_in n h0 h1) 7 (by decide) (y : Int) (by omega) (by
      have : y < 2 ^ 64 := by omega
      exact_mod_cast this)
    rw [show ((2 : Int) ^ 7 - 1) = 127 from rfl, show ((2 : Int) ^ 7) = 128 from rfl] at this
    rw [this]; omega
  rw [h1]
  have h2 := u64_or_add ((y % 128 : Nat) : Int) 1 7 (by omega) (by rw [show ((2 : Int) ^ 7) = 128 from rfl]; omega) (by
    rw [show ((2 : Int) ^ 64) = 18446744073709551616 from rfl]; omega) (by omega) (by decide)
  rw [show ((1 : Int) * 2 ^ 7) = 128 from rfl] at h2
  rw [h2]; omega
theorem refvarint_l (v : Nat) (hv : v < 2 ^ 64) (acc : List Int) (k : Nat) (hk : (vi v).length ≤ k) (ha : acc.length + (vi v).length < 140737488355328) :
    dolmenref1_Varint.l0 k (v : Int) acc = some (acc ++ vi v) := by
  induction v using vi_ind generalizing acc k with
  | big v hb ih =>
    have ho := (or128b v).resolve_right (by omega)
    rw [vi_big hb] at hk ha ⊢
    obtain ⟨k, rfl⟩ : ∃ m, k = m + 1 := ⟨k - 1, by simp only [List.length_cons] at hk; omega⟩
    simp only [List.length_cons] at hk ha
    rw [dolmenref1_Varint.l0, if_pos (by omega), if_pos (by omega), ho]
    rw [show (v : Int) / 128 = ((v / 128 : Nat) : Int) from by omega, ih (by omega) _ k (by omega) (by simp; omega)]
    rw [List.append_assoc, List.singleton_append]
  | small v hs =>
    rw [vi_small hs] at hk ha ⊢
    obtain ⟨k, rfl⟩ : ∃ m, k = m + 1 := ⟨k - 1, by simp at hk; omega⟩
    rw [dolmenref1_Varint.l0, if_neg (by omega), if_pos (by simp at ha; omega)]
    congr 3; omega
theorem refvarint_f (v : Nat) (hv : v < 2 ^ 64) (k : Nat) (hk : 10 ≤ k) : dolmenref1_Varint.f k (v : Int) = some (vi v) := by
  unfold dolmenref1_Varint.f
  have := vi_len64 v hv
  rw [refvarint_l v hv [] k (by omega) (by simp; omega)]; rfl
theorem reftext_f (s : ByteArray) (hs : s.size ≤ 100000) (k : Nat) (hk : 10 ≤ k) : dolmenref1_Text.f k s = some (vi s.size ++ bytesOf s) := by
  unfold dolmenref1_Text.f
  have := vi_len64 s.size (by omega)
  rw [u64_wrap_in _ (by omega) (by omega), refvarint_f s.size (by omega) k hk, Option.bind_some, if_pos (by omega)]

theorem and127b (y : Int) (h0 : 0 ≤ y) (h1 : y < 256) : Go.bits .and .u8 y 127 = y % 128 := by
  have : ∀ y : Fin 256, Go.bits .and .u8 (y.val : Int) 127 = (y.val : Int) % 128 := by decide +kernel
  have h := this ⟨y.toNat, by omega⟩
  simp only [Int.toNat_of_nonneg h0] at h
  exact h
theorem seven (i : Nat) (h : i ≤ 10) : wrap64 (7 * (i : Int)) = 7 * i := by unfold wrap64; omega
theorem succ10 (i : Nat) (h : i ≤ 10) : wrap64 ((i : Int) + 1) = ((i + 1 : Nat) : Int) := by unfold wrap64; omega
theorem refunvarint_l (b : List Int) (hb : ∀ c ∈ b, 0 ≤ c ∧ c < 256) (d : Nat) : ∀ (i : Nat) (v : Int) (k : Nat), i ≤ b.length → i ≤ 10 → 10 - i = d → 0 ≤ v → v < 2 ^ 64 → (i ≤ 9 → v < 2 ^ (7 * i)) → 3 * d + 3 ≤ k →
    dolmenref1_Unvarint.l0 k b v (i : Int) = some (uv (b.drop i) i v) := by
  induction d with
  | zero =>
    intro i v k hi h10 hd h0 h64 hv hk
    obtain ⟨k, rfl⟩ : ∃ m, k = m + 1 := ⟨k - 1, by omega⟩
    obtain ⟨k, rfl⟩ : ∃ m, k = m + 1 := ⟨k - 1, by omega⟩
    rw [uv_ten _ _ (by omega), dolmenref1_Unvarint.l0]
    split
    · rw [dolmenref1_Unvarint.j1, if_neg (by simp; omega)]
    · rw [dolmenref1_Unvarint.j1, if_neg (by simp)]
  | succ d ih =>
    intro i v k hi h10 hd h0 h64 hv hk
    obtain ⟨k, rfl⟩ : ∃ m, k = m + 1 := ⟨k - 1, by omega⟩
    obtain ⟨k, rfl⟩ : ∃ m, k = m + 1 := ⟨k - 1, by omega⟩
    obtain ⟨k, rfl⟩ : ∃ m, k = m + 1 := ⟨k - 1, by omega⟩
    by_cases hl : i < b.length
    · have hc := hb b[i] (List.getElem_mem hl)
      have hdrop : b.drop i = b[i] :: b.drop (i + 1) := List.drop_eq_getElem_cons hl
      have hi' := hv (by omega)
      have hp : (0 : Int) < 2 ^ (7 * i) := Int.pow_pos (by decide)
      have hm0 : 0 ≤ b[i] % 128 * 2 ^ (7 * i) := Int.mul_nonneg (by omega) (by omega)
      have hm127 : b[i] % 128 * 2 ^ (7 * i) ≤ 127 * 2 ^ (7 * i) := Int.mul_le_mul_of_nonneg_right (by omega) (by omega)
      have hm1 : i ≤ 8 ∨ b[i] % 128 ≤ 1 → b[i] % 128 * 2 ^ (7 * i) < 2 ^ 64 := by
        intro h
        rcases h with h | h
        · have hle : (2 : Int) ^ (7 * i) * 128 ≤ 2 ^ 64 := by
            have h1 : (2 : Int) ^ (7 * i) * 128 = 2 ^ (7 * i + 7) := by rw [Int.pow_add]; rfl
            rw [h1]
            exact pow_mono 2 (show 7 * i + 7 ≤ 64 by omega) (by decide)
          omega
        · have h1 : b[i] % 128 * 2 ^ (7 * i) ≤ 1 * 2 ^ (7 * i) := Int.mul_le_mul_of_nonneg_right (by omega) (by omega)
          have hle : (2 : Int) ^ (7 * i) ≤ 2 ^ 63 := pow_mono 2 (show 7 * i ≤ 63 by omega) (by decide)
          have : (2 : Int) ^ 63 = 9223372036854775808 := rfl
          have : (2 : Int) ^ 64 = 18446744073709551616 := rfl
          omega
      have hsh : shl .u64 (b[i] % 128) (7 * (i : Int)) = IntKind.u64.wrap ((b[i] % 128) * 2 ^ (7 * i)) := by
        unfold shl
        have h7 : (7 * (i : Int)).toNat = 7 * i := by omega
        have : min (7 * (i : Int)).toNat IntKind.u64.bits = 7 * i := by rw [h7]; apply Nat.min_eq_left; show _ ≤ 64; omega
        rw [this]
      have hv' : i ≤ 8 ∨ b[i] % 128 ≤ 1 → Go.bits .or .u64 v (IntKind.u64.wrap (b[i] % 128 * 2 ^ (7 * i))) = v + b[i] % 128 * 2 ^ (7 * i) := by
        intro h
        rw [u64_wrap_in _ hm0 (hm1 h), u64_or_add _ _ _ h0 hi' h64 (by omega) (hm1 h)]
      have hadd : i ≤ 8 → v + b[i] % 128 * 2 ^ (7 * i) < 2 ^ (7 * (i + 1)) ∧ v + b[i] % 128 * 2 ^ (7 * i) < 2 ^ 64 := by
        intro h8
        have e : (2 : Int) ^ (7 * (i + 1)) = 2 ^ (7 * i) * 128 := by rw [show 7 * (i + 1) = 7 * i + 7 from by omega, Int.pow_add]; rfl
        have h2 : (2 : Int) ^ (7 * (i + 1)) ≤ 2 ^ 64 := pow_mono 2 (show 7 * (i + 1) ≤ 64 by omega) (by decide)
        rw [e] at h2 ⊢
        omega
      have hrd : rd b (i : Int) = b[i] := by simp [rd, hl]
      rw [dolmenref1_Unvarint.l0, if_pos (by clear hrd; omega), dolmenref1_Unvarint.j1, if_pos (by clear hrd; simp; omega), if_pos (by clear hrd; omega), if_pos (by clear hrd; omega), hrd, hdrop, uv, if_neg (show ¬ i ≥ 10 by clear hrd; omega)]
      clear hrd
      by_cases hbig : b[i] ≥ 128
      · rw [if_pos hbig]
        by_cases h9 : i = 9
        · have hr := bits_or_range v (IntKind.u64.wrap (b[i] % 128 * 2 ^ (7 * i)))
          rw [if_pos (by omega), uv_ten _ _ (by omega), dolmenref1_Unvarint.j2, if_pos (by simp; omega)]
        · rw [if_neg (by omega), dolmenref1_Unvarint.j2, if_neg (by simp), seven i (by omega), if_pos (by omega), if_neg (by omega), and127b _ hc.1 hc.2, u64_wrap_in (b[i] % 128) (by omega) (by omega), hsh, hv' (.inl (by omega)), succ10 i (by omega)]
          have ha := hadd (by omega)
          rw [ih (i + 1) _ k (by omega) (by omega) (by omega) (by omega) ha.2 (fun _ => ha.1) (by omega), show b[i] % 128 = b[i] - 128 from by omega]
      · rw [if_neg hbig]
        have hmod : b[i] % 128 = b[i] := by omega
        rw [hmod] at hv' hsh
        by_cases h9 : i = 9
        · rw [if_pos (by omega)]
          by_cases h1 : b[i] > 1
          · rw [dolmenref1_Unvarint.j2, if_pos (by simpa using h1), if_pos ⟨h9, h1⟩]
          · rw [dolmenref1_Unvarint.j2, if_neg (by simpa using h1), if_neg (show ¬ (i = 9 ∧ b[i] > 1) from fun h => h1 h.2), seven i (by omega), if_pos (by omega), if_pos (by omega), and127b _ hc.1 hc.2, hmod, u64_wrap_in b[i] (by omega) (by omega), hsh, hv' (.inr (by omega)), succ10 i (by omega)]
            by_cases hz : b[i] = 0
            · rw [if_pos hz, if_pos (by omega), if_pos ⟨by omega, hz⟩]
            · rw [if_neg hz, if_neg (fun h => hz h.2)]; simp
        · rw [if_neg (by omega), dolmenref1_Unvarint.j2, if_neg (by simp), if_neg (show ¬ (i = 9 ∧ b[i] > 1) from fun h => h9 h.1), seven i (by omega), if_pos (by omega), if_pos (by omega), and127b _ hc.1 hc.2, hmod, u64_wrap_in b[i] (by omega) (by omega), hsh, hv' (.inl (by omega)), succ10 i (by omega)]
          by_cases hz : b[i] = 0
          · rw [if_pos hz]
            by_cases h1 : 1 ≤ i
            · rw [if_pos (by omega), if_pos ⟨h1, hz⟩]
            · rw [if_neg (by omega), if_neg (show ¬ (i ≥ 1 ∧ b[i] = 0) from fun h => h1 h.1)]; simp
          · rw [if_neg hz, if_neg (fun h => hz h.2)]; simp
    · rw [dolmenref1_Unvarint.l0, if_neg (by omega), dolmenref1_Unvarint.j1, if_neg (by simp), List.drop_eq_nil_of_le (by omega)]
      rfl
theorem refunvarint_f (b : List Int) (hb : ∀ c ∈ b, 0 ≤ c ∧ c < 256) (k : Nat) (hk : 33 ≤ k) : dolmenref1_Unvarint.f k b = some (uv b 0 0) := by
  unfold dolmenref1_Unvarint.f
  have := refunvarint_l b hb 10 0 0 k (by omega) (by omega) (by omega) (by omega) (by decide) (fun _ => by decide) (by omega)
  simpa using this
def refUntextIs (l : List Int) : ByteArray × Int × Int := ((untextIs l).1, (untextIs l).2.1, match (untextIs l).2.2 with | none => 0 | some c => c)
theorem refuntext_f (l : List Int) (hb : ∀ c ∈ l, 0 ≤ c ∧ c < 256) (hl : l.length ≤ 100000000) (k : Nat) (hk : 33 ≤ k) : dolmenref1_Untext.f k l = some (refUntextIs l) := by
  have hu := uv_bounds l hb 0 0 (by decide) (fun _ => by decide)
  unfold dolmenref1_Untext.f refUntextIs untextIs
  rw [refunvarint_f l hb k hk, Option.bind_some]
  generalize uv l 0 0 = p at hu
  obtain ⟨x, n⟩ := p
  simp only at hu ⊢
  by_cases hn : n = 0
  · rw [if_pos hn, if_pos (.inl hn)]
  have hn1 : 0 < n ∧ n ≤ l.length := by omega
  rw [if_neg hn, wrap_id ((l.length : Int) - n) (by omega) (by omega), u64_wrap_in _ (by omega) (by omega)]
  by_cases hx : x > (l.length : Int) - n
  · rw [if_pos hx, if_pos (.inr hx)]
  · rw [if_neg hx, wrap_id x (by omega) (by omega), wrap_id (n + x) (by omega) (by omega), if_pos (by omega), if_pos (by omega), if_pos (by omega), if_neg (by omega)]

end BitsVarintsAid
open BitsVarintsAid
theorem BitsVarints : dolmenlaw1_BitsVarints.Pure := by
  intro v0 s l hv hs hmax hsz hb
  have hb' : ∀ c ∈ l, 0 ≤ c ∧ c < 256 := by
    intro c hc
    have := hb c hc
    simp [Lit.wf, IntKind.min, IntKind.max, IntKind.bits, IntKind.signed] at this
    omega
  simp [Lit.wf, IntKind.min, IntKind.max, IntKind.bits, IntKind.signed] at hv
  clear hb
  obtain ⟨v, rfl⟩ := Int.eq_ofNat_of_zero_le hv.1
  have hv64 : v < 2 ^ 64 := by omega
  have haw : ∀ k, 10 ≤ k → dolmenlaw1_awake.f k = some true := fun k h => at_rounds dolmenlaw1_awake.mono h awake_true
  refine ⟨200, ?_⟩
  unfold dolmenlaw1_BitsVarints.f
  by_cases g1 : (s.size : Int) > 2000
  · rw [if_pos g1, dolmenlaw1_BitsVarints.j0, if_pos rfl, haw _ (by omega)]; rfl
  by_cases g2 : (l.length : Int) > 2000
  · rw [if_neg g1, dolmenlaw1_BitsVarints.j0, if_pos (by simpa using g2), haw _ (by omega)]; rfl
  rw [if_neg g1, dolmenlaw1_BitsVarints.j0, if_neg (by simpa using g2)]
  have hcode : dolmenalike_Code.f (untextIs l).2.2 = some (refUntextIs l).2.2 := by
    have h14 : codeOf 14 = 14 := by decide
    unfold refUntextIs untextIs
    split <;> simp [dolmenalike_Code.f, h14]
  rw [unvarint_f l hb' _ (by omega), Option.bind_some, refunvarint_f l hb' _ (by omega), Option.bind_some, untext_f l hb' (by omega) _ (by omega), Option.bind_some, refuntext_f l hb' (by omega) _ (by omega), Option.bind_some,
    varint_f v hv64 _ (by omega), Option.bind_some, refvarint_f v hv64 _ (by omega), Option.bind_some, if_pos rfl, text_f s (by omega) _ (by omega), Option.bind_some, reftext_f s (by omega) _ (by omega), Option.bind_some, if_pos rfl, if_pos rfl, if_pos rfl,
    if_pos (show (untextIs l).1.toList = (refUntextIs l).1.toList from rfl), if_pos (show (untextIs l).2.1 = (refUntextIs l).2.1 from rfl), hcode, Option.bind_some, if_pos rfl, haw _ (by omega)]
  rfl
end Go.Proofs.Ytfonkhikdaegpaa.Pure
