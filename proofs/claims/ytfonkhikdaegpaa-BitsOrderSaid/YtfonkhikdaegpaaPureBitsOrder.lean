/- BitsOrder (chapter 1): varints of unlike values are unlike; a greater value has no fewer bytes; noughts behind a value make it none. Proved for every two words, no further condition. -/
import Derived.Test.YtfonkhikdaegpaaPBitsOrderx2
import Derived.Test.YtfonkhikdaegpaaVar
namespace Go.Proofs.Ytfonkhikdaegpaa.Pure
open Go.RowKit Go.Proofs.Ytfonkhikdaegpaa.PBitsOrder Go.Proofs.YtfonkhikdaegpaaW.PrintWords Go.Proofs.YtfonkhikdaegpaaW.PrintLast Go.Proofs.Ytfonkhikdaegpaa.Var
namespace OrderAid
theorem awake_true : dolmenlaw1_awake.f 10 = some true := by decide +kernel

theorem varint_l (v : Nat) (acc : List Int) (k : Nat) (hk : (vi v).length ≤ k) (ha : acc.length + (vi v).length < 140737488355328) :
    bits_Varint.l0 k (v : Int) acc = some (acc ++ vi v) := by
  induction v using vi_ind generalizing acc k with
  | big v hb ih =>
    rw [vi_big hb] at hk ha ⊢
    obtain ⟨k, rfl⟩ : ∃ m, k = m + 1 := ⟨k - 1, by simp only [List.length_cons] at hk; omega⟩
    simp only [List.length_cons] at hk ha
    simp only [bits_Varint.l0]
    rw [if_pos (by omega), if_pos (by omega), or128 _ (by omega) (by omega)]
    rw [show (v : Int) / 128 = ((v / 128 : Nat) : Int) from by omega, ih _ k (by omega) (by simp; omega)]
    rw [List.append_assoc, List.singleton_append]
    congr 3; omega
  | small v hs =>
    rw [vi_small hs] at hk ha ⊢
    obtain ⟨k, rfl⟩ : ∃ m, k = m + 1 := ⟨k - 1, by simp at hk; omega⟩
    simp only [bits_Varint.l0]
    rw [if_neg (by omega), if_pos (by simp at ha; omega)]
    congr 3; omega
theorem varint_f (v : Nat) (hv : v < 2 ^ 64) (k : Nat) (hk : 10 ≤ k) : bits_Varint.f k (v : Int) = some (vi v) := by
  unfold bits_Varint.f
  have := vi_len64 v hv
  rw [varint_l v [] k (by omega) (by simp; omega)]; rfl

theorem unvarint_l (b : List Int) (hb : ∀ c ∈ b, 0 ≤ c ∧ c < 256) (d : Nat) : ∀ (i : Nat) (v : Int) (k : Nat), i ≤ b.length → i ≤ 10 → 10 - i = d → 0 ≤ v → v < 2 ^ 64 → (i ≤ 9 → v < 2 ^ (7 * i)) → 3 * d + 3 ≤ k →
    bits_Unvarint.l0 k b v (i : Int) = some (uv (b.drop i) i v) := by
  induction d with
  | zero =>
    intro i v k hi h10 hd h0 h64 hv hk
    obtain ⟨k, rfl⟩ : ∃ m, k = m + 1 := ⟨k - 1, by omega⟩
    obtain ⟨k, rfl⟩ : ∃ m, k = m + 1 := ⟨k - 1, by omega⟩
    rw [bits_Unvarint.l0, if_neg (by omega), bits_Unvarint.j1, if_neg (by simp), uv_ten _ _ (by omega)]
  | succ d ih =>
    intro i v k hi h10 hd h0 h64 hv hk
    obtain ⟨k, rfl⟩ : ∃ m, k = m + 1 := ⟨k - 1, by omega⟩
    obtain ⟨k, rfl⟩ : ∃ m, k = m + 1 := ⟨k - 1, by omega⟩
    obtain ⟨k, rfl⟩ : ∃ m, k = m + 1 := ⟨k - 1, by omega⟩
    rw [bits_Unvarint.l0, if_pos (by omega), bits_Unvarint.j1]
    by_cases hl : i < b.length
    · have hc := hb b[i] (List.getElem_mem hl)
      have hrd : rd b (i : Int) = b[i] := by simp [rd, hl]
      have hdrop : b.drop i = b[i] :: b.drop (i + 1) := List.drop_eq_getElem_cons hl
      have hw1 : wrap64 (7 * (i : Int)) = 7 * i := by unfold wrap64; omega
      have hw2 : wrap64 ((i : Int) + 1) = ((i + 1 : Nat) : Int) := by unfold wrap64; omega
      rw [if_pos (by simp; omega), if_pos (by omega), if_pos (by omega), hw1, if_pos (by omega), hrd, hw2, hdrop, uv, if_neg (show ¬ i ≥ 10 by omega)]
      rw [and127 _ hc.1 hc.2, u64_wrap_in (b[i] % 128) (by omega) (by omega)]
      have hi' := hv (by omega)
      have hsh : shl .u64 (b[i] % 128) (7 * (i : Int)) = IntKind.u64.wrap ((b[i] % 128) * 2 ^ (7 * i)) := by
        unfold shl
        have : min (7 * (i : Int)).toNat IntKind.u64.bits = 7 * i := by
          have : (7 * (i : Int)).toNat = 7 * i := by omega
          rw [this]; apply Nat.min_eq_left; show _ ≤ 64; omega
        rw [this]
      rw [hsh]
      have hp : (0 : Int) < 2 ^ (7 * i) := Int.pow_pos (by decide)
      have hm0 : 0 ≤ b[i] % 128 * 2 ^ (7 * i) := Int.mul_nonneg (by omega) (by omega)
      have hm1 : i ≤ 8 ∨ b[i] % 128 ≤ 1 → b[i] % 128 * 2 ^ (7 * i) < 2 ^ 64 := by
        intro h
        rcases h with h | h
        · have h1 : b[i] % 128 * 2 ^ (7 * i) ≤ 127 * 2 ^ (7 * i) := Int.mul_le_mul_of_nonneg_right (by omega) (by omega)
          have hle : (2 : Int) ^ (7 * i) * 128 ≤ 2 ^ 64 := by
            have h1 : (2 : Int) ^ (7 * i) * 128 = 2 ^ (7 * i + 7) := by rw [Int.pow_add]; rfl
            rw [h1]
            exact_mod_cast Nat.pow_le_pow_right (n := 2) (by decide) (show 7 * i + 7 ≤ 64 by omega)
          omega
        · have h1 : b[i] % 128 * 2 ^ (7 * i) ≤ 1 * 2 ^ (7 * i) := Int.mul_le_mul_of_nonneg_right (by omega) (by omega)
          have hle : (2 : Int) ^ (7 * i) ≤ 2 ^ 63 := by exact_mod_cast Nat.pow_le_pow_right (n := 2) (by decide) (show 7 * i ≤ 63 by omega)
          have : (2 : Int) ^ 63 = 9223372036854775808 := rfl
          have : (2 : Int) ^ 64 = 18446744073709551616 := rfl
          omega
      have hv' : i ≤ 8 ∨ b[i] % 128 ≤ 1 → Go.bits .or .u64 v (IntKind.u64.wrap (b[i] % 128 * 2 ^ (7 * i))) = v + b[i] % 128 * 2 ^ (7 * i) := by
        intro h
        rw [u64_wrap_in _ hm0 (hm1 h), u64_or_add _ _ _ h0 hi' h64 (by omega) (hm1 h)]
      by_cases hbig : b[i] ≥ 128
      · rw [if_pos hbig, if_pos hbig]
        by_cases h8 : i ≤ 8
        · rw [hv' (.inl h8), ih (i + 1) _ _ (by omega) (by omega) (by omega) (by omega) ?_ ?_ (by omega)]
          · congr 2; congr 1; rw [show b[i] % 128 = b[i] - 128 from by omega]
          · have := hm1 (.inl h8)
            have hle : (v + b[i] % 128 * 2 ^ (7 * i) : Int) < 2 ^ (7 * i + 7) := by
              have h1 : b[i] % 128 * 2 ^ (7 * i) ≤ 127 * 2 ^ (7 * i) := Int.mul_le_mul_of_nonneg_right (by omega) (by omega)
              rw [Int.pow_add]
              have : (2 : Int) ^ 7 = 128 := rfl
              rw [this]; omega
            have : (2 : Int) ^ (7 * i + 7) ≤ 2 ^ 64 := by exact_mod_cast Nat.pow_le_pow_right (n := 2) (by decide) (show 7 * i + 7 ≤ 64 by omega)
            omega
          · intro _
            have h1 : b[i] % 128 * 2 ^ (7 * i) ≤ 127 * 2 ^ (7 * i) := Int.mul_le_mul_of_nonneg_right (by omega) (by omega)
            rw [show 7 * (i + 1) = 7 * i + 7 from by omega, Int.pow_add]
            have : (2 : Int) ^ 7 = 128 := rfl
            rw [this]; omega
        · have e9 : i = 9 := by omega
          have hr := bits_or_range v (IntKind.u64.wrap (b[i] % 128 * 2 ^ (7 * i)))
          rw [ih (i + 1) _ _ (by omega) (by omega) (by omega) hr.1 hr.2 (fun h => by omega) (by omega), uv_ten _ _ (by omega), uv_ten _ _ (by omega)]
      · rw [if_neg hbig, if_neg hbig]
        have hmod : b[i] % 128 = b[i] := by omega
        rw [hmod] at hv' ⊢
        by_cases h9 : i = 9
        · rw [if_pos (by omega)]
          by_cases h1 : b[i] > 1
          · simp only [bits_Unvarint.j2]
            rw [if_pos (by simpa using h1), if_pos ⟨h9, h1⟩]
          · simp only [bits_Unvarint.j2]
            rw [if_neg (by simpa using h1), if_neg (show ¬ (i = 9 ∧ b[i] > 1) from fun h => h1 h.2), if_pos (by omega)]
            by_cases hz : b[i] = 0
            · rw [if_pos hz, if_pos ⟨by omega, hz⟩]
            · rw [if_neg hz, if_neg (fun h => hz h.2), hv' (.inr (by omega))]
              simp
        · rw [if_neg (by omega)]
          simp only [bits_Unvarint.j2]
          rw [if_neg (by simp), if_neg (show ¬ (i = 9 ∧ b[i] > 1) from fun h => h9 h.1)]
          by_cases h1 : 1 ≤ i
          · rw [if_pos (by omega)]
            by_cases hz : b[i] = 0
            · rw [if_pos hz, if_pos ⟨by omega, hz⟩]
            · rw [if_neg hz, if_neg (fun h => hz h.2), hv' (.inl (by omega))]
              simp
          · rw [if_neg (by omega), if_neg (show ¬ (i ≥ 1 ∧ b[i] = 0) from fun h => h1 h.1), hv' (.inl (by omega))]
            simp
    · rw [if_neg (by simp; omega), List.drop_eq_nil_of_le (by omega)]
      rfl
theorem unvarint_f (b : List Int) (hb : ∀ c ∈ b, 0 ≤ c ∧ c < 256) (k : Nat) (hk : 33 ≤ k) : bits_Unvarint.f k b = some (uv b 0 0) := by
  unfold bits_Unvarint.f
  have := unvarint_l b hb 10 0 0 k (by omega) (by omega) (by omega) (by omega) (by decide) (fun _ => by decide) (by omega)
  simpa using this
theorem strOfNums_inj (a b : List Int) (ha : ∀ c ∈ a, 0 ≤ c ∧ c < 256) (hb : ∀ c ∈ b, 0 ≤ c ∧ c < 256) (h : (strOfNums a).toList = (strOfNums b).toList) : a = b := by
  have key : ∀ l : List Int, (∀ c ∈ l, 0 ≤ c ∧ c < 256) → (strOfNums l).toList.map (fun u => (u.toNat : Int)) = l := by
    intro l hl
    have : (strOfNums l).toList = l.map fun n => UInt8.ofNat n.toNat := by
      simp [strOfNums, Go.ByteArray.toList_eq]
    rw [this, List.map_map]
    conv => rhs; rw [← List.map_id l]
    apply List.map_congr_left
    intro c hc
    have := hl c hc
    simp [UInt8.toNat_ofNat']
    omega
  rw [← key a ha, ← key b hb, h]
end OrderAid
open OrderAid
/-- Varints of unlike values are unlike; a greater value has no fewer bytes; noughts behind a value make it none. No condition. -/
theorem BitsOrder : dolmenlaw1_BitsOrder.Pure := by
  intro a0 a1 h0 h1
  simp [Lit.wf, IntKind.min, IntKind.max, IntKind.bits, IntKind.signed] at h0 h1
  obtain ⟨v, rfl⟩ := Int.eq_ofNat_of_zero_le h0.1
  obtain ⟨w, rfl⟩ := Int.eq_ofNat_of_zero_le h1.1
  refine ⟨41, ?_⟩
  unfold dolmenlaw1_BitsOrder.f
  rw [varint_f v (by omega) _ (by omega), Option.bind_some, varint_f w (by omega) _ (by omega), Option.bind_some]
  have hstr : ((strOfNums (vi v)).toList == (strOfNums (vi w)).toList) = ((v : Int) == (w : Int)) := by
    rw [Bool.eq_iff_iff, beq_iff_eq, beq_iff_eq]
    constructor
    · intro h
      rw [vi_inj v w (strOfNums_inj _ _ (vi_range v) (vi_range w) h)]
    · intro h
      rw [show v = w from by omega]
  have hlen := vi_len_mono v w
  have hp := vi_pos v
  have hl := vi_len64 v (by omega)
  have hj : dolmenlaw1_BitsOrder.j0 41 (vi v) (((vi v).length : Int) == 0) = some true := by
    have hne : vi v ≠ [] := fun h => by rw [h] at hp; simp at hp
    have hw : wrap64 (((vi v).length : Int) - 1) = (vi v).length - 1 := by unfold wrap64; omega
    have hrd : rd (vi v) (((vi v).length : Int) - 1) = (vi v).getLast hne := by
      have : (((vi v).length : Int) - 1).toNat = (vi v).length - 1 := by omega
      rw [rd, this, List.getLast_eq_getElem, List.getD_eq_getElem?_getD, List.getElem?_eq_getElem (by omega)]; rfl
    have hset : (vi v).set ((((vi v).length : Int) - 1)).toNat (Go.bits .or .u8 ((vi v).getLast hne) 128) = (vi v).dropLast ++ [Go.bits .or .u8 ((vi v).getLast hne) 128] := by
      have : (((vi v).length : Int) - 1).toNat = (vi v).dropLast.length := by simp
      rw [this]
      conv => lhs; arg 1; rw [← List.dropLast_concat_getLast hne]
      simp
    simp only [dolmenlaw1_BitsOrder.j0]
    rw [if_neg (by simp; omega)]
    simp only [Option.bind_some, List.nil_append, List.length_nil]
    rw [if_pos (by omega)]
    rw [hw, if_pos (by omega), if_pos (by omega), hrd, hset, if_pos (by simp; omega)]
    have hr := vi_range v
    have hlast := hr _ (List.getLast_mem hne)
    rw [or128 _ hlast.1 hlast.2, unvarint_f _ ?_ _ (by omega), Option.bind_some, uv_last _ _ _ _ (by omega), if_pos rfl]
    · have : dolmenlaw1_awake.f 40 = some true := at_rounds dolmenlaw1_awake.mono (by omega) awake_true
      rw [this]; rfl
    · intro c hc
      simp only [List.mem_append, List.mem_singleton] at hc
      rcases hc with (hc | rfl) | rfl
      · exact hr c (List.dropLast_subset _ hc)
      · omega
      · omega
  rw [hstr, if_neg (by simp)]
  by_cases hle : (v : Int) ≤ w
  · rw [if_pos hle, if_neg (by have := hlen (by omega); omega), hj]
  · rw [if_neg hle, hj]
end Go.Proofs.Ytfonkhikdaegpaa.Pure
