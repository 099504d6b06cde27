/- BitsTexts (chapter 1): a varint, a text is read as it was laid, whatever stands behind; no beginning of it is one. Proved for every value, text, bytes and place, no further condition. -/
import Derived.Test.YtfonkhikdaegpaaPBitsTextsx3
import Derived.Test.YtfonkhikdaegpaaVar
namespace Go.Proofs.Ytfonkhikdaegpaa.Pure
open Go.RowKit Go.Proofs.Ytfonkhikdaegpaa.PBitsTexts Go.Proofs.YtfonkhikdaegpaaW.PrintWords Go.Proofs.YtfonkhikdaegpaaW.PrintLast Go.Proofs.YtfonkhikdaegpaaW.PrintMore Go.Proofs.Ytfonkhikdaegpaa.Var
namespace BitsTextsAid
theorem awake_true : dolmenlaw1_awake.f 10 = some true := by decide +kernel


theorem varint_l (v : Nat) (acc : List Int) (k : Nat) (hk : (vi v).length ≤ k) (ha : acc.length + (vi v).length < 140737488355328) :
    bits_Varint.l0 k (v : Int) acc = some (acc ++ vi v) := by
  induction v using vi_ind generalizing acc k with
  | big v hb ih =>
    rw [vi_big hb] at hk ha ⊢
    obtain ⟨k, rfl⟩ : ∃ m, k = m + 1 := ⟨k - 1, by simp only [List.length_cons] at hk; omega⟩
    simp only [List.length_cons] at hk ha
    simp only [bits_Varint.l0]
    rw [if_pos (by omega), if_pos (by omega), or128 _ (by omega) (by omega)]
    rw [show (v : Int) / 128 = ((v / 128 : Nat) : Int) from by omega, ih _ k (by omega) (by simp; omega)]
    rw [List.append_assoc, List.singleton_append]
    congr 3; omega
  | small v hs =>
    rw [vi_small hs] at hk ha ⊢
    obtain ⟨k, rfl⟩ : ∃ m, k = m + 1 := ⟨k - 1, by simp at hk; omega⟩
    simp only [bits_Varint.l0]
    rw [if_neg (by omega), if_pos (by simp at ha; omega)]
    congr 3; omega
theorem varint_f (v : Nat) (hv : v < 2 ^ 64) (k : Nat) (hk : 10 ≤ k) : bits_Varint.f k (v : Int) = some (vi v) := by
  unfold bits_Varint.f
  have := vi_len64 v hv
  rw [varint_l v [] k (by omega) (by simp; omega)]; rfl


theorem unvarint_l (b : List Int) (hb : ∀ c ∈ b, 0 ≤ c ∧ c < 256) (d : Nat) : ∀ (i : Nat) (v : Int) (k : Nat), i ≤ b.length → i ≤ 10 → 10 - i = d → 0 ≤ v → v < 2 ^ 64 → (i ≤ 9 → v < 2 ^ (7 * i)) → 3 * d + 3 ≤ k →
    bits_Unvarint.l0 k b v (i : Int) = some (uv (b.drop i) i v) := by
  induction d with
  | zero =>
    intro i v k hi h10 hd h0 h64 hv hk
    obtain ⟨k, rfl⟩ : ∃ m, k = m + 1 := ⟨k - 1, by omega⟩
    obtain ⟨k, rfl⟩ : ∃ m, k = m + 1 := ⟨k - 1, by omega⟩
    rw [bits_Unvarint.l0, if_neg (by omega), bits_Unvarint.j1, if_neg (by simp), uv_ten _ _ (by omega)]
  | succ d ih =>
    intro i v k hi h10 hd h0 h64 hv hk
    obtain ⟨k, rfl⟩ : ∃ m, k = m + 1 := ⟨k - 1, by omega⟩
    obtain ⟨k, rfl⟩ : ∃ m, k = m + 1 := ⟨k - 1, by omega⟩
    obtain ⟨k, rfl⟩ : ∃ m, k = m + 1 := ⟨k - 1, by omega⟩
    rw [bits_Unvarint.l0, if_pos (by omega), bits_Unvarint.j1]
    by_cases hl : i < b.length
    · have hc := hb b[i] (List.getElem_mem hl)
      have hrd : rd b (i : Int) = b[i] := by simp [rd, hl]
      have hdrop : b.drop i = b[i] :: b.drop (i + 1) := List.drop_eq_getElem_cons hl
      have hw1 : wrap64 (7 * (i : Int)) = 7 * i := by unfold wrap64; omega
      have hw2 : wrap64 ((i : Int) + 1) = ((i + 1 : Nat) : Int) := by unfold wrap64; omega
      rw [if_pos (by simp; omega), if_pos (by omega), if_pos (by omega), hw1, if_pos (by omega), hrd, hw2, hdrop, uv, if_neg (show ¬ i ≥ 10 by omega)]
      rw [and127 _ hc.1 hc.2, u64_wrap_in (b[i] % 128) (by omega) (by omega)]
      have hi' := hv (by omega)
      have hsh : shl .u64 (b[i] % 128) (7 * (i : Int)) = IntKind.u64.wrap ((b[i] % 128) * 2 ^ (7 * i)) := by
        unfold shl
        have : min (7 * (i : Int)).toNat IntKind.u64.bits = 7 * i := by
          have : (7 * (i : Int)).toNat = 7 * i := by omega
          rw [this]; apply Nat.min_eq_left; show _ ≤ 64; omega
        rw [this]
      rw [hsh]
      have hp : (0 : Int) < 2 ^ (7 * i) := Int.pow_pos (by decide)
      have hm0 : 0 ≤ b[i] % 128 * 2 ^ (7 * i) := Int.mul_nonneg (by omega) (by omega)
      have hm1 : i ≤ 8 ∨ b[i] % 128 ≤ 1 → b[i] % 128 * 2 ^ (7 * i) < 2 ^ 64 := by
        intro h
        rcases h with h | h
        · have h1 : b[i] % 128 * 2 ^ (7 * i) ≤ 127 * 2 ^ (7 * i) := Int.mul_le_mul_of_nonneg_right (by omega) (by omega)
          have hle : (2 : Int) ^ (7 * i) * 128 ≤ 2 ^ 64 := by
            have h1 : (2 : Int) ^ (7 * i) * 128 = 2 ^ (7 * i + 7) := by rw [Int.pow_add]; rfl
            rw [h1]
            exact_mod_cast Nat.pow_le_pow_right (n := 2) (by decide) (show 7 * i + 7 ≤ 64 by omega)
          omega
        · have h1 : b[i] % 128 * 2 ^ (7 * i) ≤ 1 * 2 ^ (7 * i) := Int.mul_le_mul_of_nonneg_right (by omega) (by omega)
          have hle : (2 : Int) ^ (7 * i) ≤ 2 ^ 63 := by exact_mod_cast Nat.pow_le_pow_right (n := 2) (by decide) (show 7 * i ≤ 63 by omega)
          have : (2 : Int) ^ 63 = 9223372036854775808 := rfl
          have : (2 : Int) ^ 64 = 18446744073709551616 := rfl
          omega
      have hv' : i ≤ 8 ∨ b[i] % 128 ≤ 1 → Go.bits .or .u64 v (IntKind.u64.wrap (b[i] % 128 * 2 ^ (7 * i))) = v + b[i] % 128 * 2 ^ (7 * i) := by
        intro h
        rw [u64_wrap_in _ hm0 (hm1 h), u64_or_add _ _ _ h0 hi' h64 (by omega) (hm1 h)]
      by_cases hbig : b[i] ≥ 128
      · rw [if_pos hbig, if_pos hbig]
        by_cases h8 : i ≤ 8
        · rw [hv' (.inl h8), ih (i + 1) _ _ (by omega) (by omega) (by omega) (by omega) ?_ ?_ (by omega)]
          · congr 2; congr 1; rw [show b[i] % 128 = b[i] - 128 from by omega]
          · have := hm1 (.inl h8)
            have hle : (v + b[i] % 128 * 2 ^ (7 * i) : Int) < 2 ^ (7 * i + 7) := by
              have h1 : b[i] % 128 * 2 ^ (7 * i) ≤ 127 * 2 ^ (7 * i) := Int.mul_le_mul_of_nonneg_right (by omega) (by omega)
              rw [Int.pow_add]
              have : (2 : Int) ^ 7 = 128 := rfl
              rw [this]; omega
            have : (2 : Int) ^ (7 * i + 7) ≤ 2 ^ 64 := by exact_mod_cast Nat.pow_le_pow_right (n := 2) (by decide) (show 7 * i + 7 ≤ 64 by omega)
            omega
          · intro _
            have h1 : b[i] % 128 * 2 ^ (7 * i) ≤ 127 * 2 ^ (7 * i) := Int.mul_le_mul_of_nonneg_right (by omega) (by omega)
            rw [show 7 * (i + 1) = 7 * i + 7 from by omega, Int.pow_add]
            have : (2 : Int) ^ 7 = 128 := rfl
            rw [this]; omega
        · have e9 : i = 9 := by omega
          have hr := bits_or_range v (IntKind.u64.wrap (b[i] % 128 * 2 ^ (7 * i)))
          rw [ih (i + 1) _ _ (by omega) (by omega) (by omega) hr.1 hr.2 (fun h => by omega) (by omega), uv_ten _ _ (by omega), uv_ten _ _ (by omega)]
      · rw [if_neg hbig, if_neg hbig]
        have hmod : b[i] % 128 = b[i] := by omega
        rw [hmod] at hv' ⊢
        by_cases h9 : i = 9
        · rw [if_pos (by omega)]
          by_cases h1 : b[i] > 1
          · simp only [bits_Unvarint.j2]
            rw [if_pos (by simpa using h1), if_pos ⟨h9, h1⟩]
          · simp only [bits_Unvarint.j2]
            rw [if_neg (by simpa using h1), if_neg (show ¬ (i = 9 ∧ b[i] > 1) from fun h => h1 h.2), if_pos (by omega)]
            by_cases hz : b[i] = 0
            · rw [if_pos hz, if_pos ⟨by omega, hz⟩]
            · rw [if_neg hz, if_neg (fun h => hz h.2), hv' (.inr (by omega))]
              simp
        · rw [if_neg (by omega)]
          simp only [bits_Unvarint.j2]
          rw [if_neg (by simp), if_neg (show ¬ (i = 9 ∧ b[i] > 1) from fun h => h9 h.1)]
          by_cases h1 : 1 ≤ i
          · rw [if_pos (by omega)]
            by_cases hz : b[i] = 0
            · rw [if_pos hz, if_pos ⟨by omega, hz⟩]
            · rw [if_neg hz, if_neg (fun h => hz h.2), hv' (.inl (by omega))]
              simp
          · rw [if_neg (by omega), if_neg (show ¬ (i ≥ 1 ∧ b[i] = 0) from fun h => h1 h.1), hv' (.inl (by omega))]
            simp
    · rw [if_neg (by simp; omega), List.drop_eq_nil_of_le (by omega)]
      rfl
theorem unvarint_f (b : List Int) (hb : ∀ c ∈ b, 0 ≤ c ∧ c < 256) (k : Nat) (hk : 33 ≤ k) : bits_Unvarint.f k b = some (uv b 0 0) := by
  unfold bits_Unvarint.f
  have := unvarint_l b hb 10 0 0 k (by omega) (by omega) (by omega) (by omega) (by decide) (fun _ => by decide) (by omega)
  simpa using this

/-- What Untext tells. -/
def untextIs (l : List Int) : ByteArray × Int × Option Int :=
  if (uv l 0 0).2 = 0 ∨ (uv l 0 0).1 > (l.length : Int) - (uv l 0 0).2 then (⟨#[]⟩, 0, some 14)
  else (strOfNums ((l.take ((uv l 0 0).2 + (uv l 0 0).1).toNat).drop (uv l 0 0).2.toNat), (uv l 0 0).2 + (uv l 0 0).1, none)
theorem wrap_id (n : Int) (h0 : 0 ≤ n) (h1 : n < 4611686018427387904) : wrap64 n = n := by unfold wrap64; omega
theorem untext_f (l : List Int) (hb : ∀ c ∈ l, 0 ≤ c ∧ c < 256) (hl : l.length ≤ 100000000) (k : Nat) (hk : 33 ≤ k) : bits_Untext.f k l = some (untextIs l) := by
  have hu := uv_bounds l hb 0 0 (by decide) (fun _ => by decide)
  unfold bits_Untext.f untextIs
  rw [unvarint_f l hb k hk, Option.bind_some]
  generalize uv l 0 0 = p at hu
  obtain ⟨x, n⟩ := p
  simp only at hu ⊢
  by_cases hn : n = 0
  · rw [if_pos hn, if_pos (.inl hn)]
  have hn1 : 0 < n ∧ n ≤ l.length := by omega
  rw [if_neg hn, wrap_id ((l.length : Int) - n) (by omega) (by omega), u64_wrap_in _ (by omega) (by omega)]
  by_cases hx : x > (l.length : Int) - n
  · rw [if_pos hx, if_pos (.inr hx)]
  · rw [if_neg hx, wrap_id x (by omega) (by omega), wrap_id (n + x) (by omega) (by omega), if_pos (by omega), if_pos (by omega), if_pos (by omega), if_neg (by omega)]
theorem text_f (s : ByteArray) (hs : s.size ≤ 100000) (k : Nat) (hk : 10 ≤ k) : bits_Text.f k s = some (vi s.size ++ bytesOf s) := by
  unfold bits_Text.f
  have := vi_len64 s.size (by omega)
  rw [u64_wrap_in _ (by omega) (by omega), varint_f s.size (by omega) k hk, Option.bind_some, if_pos (by omega)]
theorem bytesOf_len (s : ByteArray) : (bytesOf s).length = s.size := by simp [bytesOf]
theorem bytesOf_range (s : ByteArray) : ∀ c ∈ bytesOf s, 0 ≤ c ∧ c < 256 := by
  intro c hc
  simp [bytesOf] at hc
  obtain ⟨u, _, rfl⟩ := hc
  have := u.toNat_lt
  omega
theorem str_bytesOf (s : ByteArray) : strOfNums (bytesOf s) = s := by
  cases s with
  | mk d =>
    simp only [strOfNums, bytesOf, List.map_map]
    congr 1
    cases d with
    | mk l =>
      simp
      conv => rhs; rw [← List.map_id l]
      apply List.map_congr_left
      intro u _
      simp
theorem range_append {a b : List Int} (ha : ∀ c ∈ a, 0 ≤ c ∧ c < 256) (hb : ∀ c ∈ b, 0 ≤ c ∧ c < 256) : ∀ c ∈ a ++ b, 0 ≤ c ∧ c < 256 := by
  intro c hc
  rcases List.mem_append.1 hc with h | h
  · exact ha c h
  · exact hb c h

end BitsTextsAid
open BitsTextsAid
theorem round_f (a : Int) (n : Nat) (hn : 0 < n) (hn' : n < 1000000) : ∃ r : Nat, r < n ∧ dolmenalike_Round.f a (n : Int) = some (r : Int) := by
  unfold dolmenalike_Round.f
  rw [if_neg (by omega)]
  have h1 := Int.tmod_lt_of_pos a (show (0 : Int) < n by omega)
  have h2 : -(n : Int) < Int.tmod a n := by
    have := Int.lt_tmod_of_pos a (show (0 : Int) < n by omega)
    omega
  by_cases h : Int.tmod a n < 0
  · refine ⟨(Int.tmod a n + n).toNat, by omega, ?_⟩
    rw [if_pos h, wrap_id _ (by omega) (by omega), Int.toNat_of_nonneg (by omega)]
  · refine ⟨(Int.tmod a n).toNat, by omega, ?_⟩
    rw [if_neg h, Int.toNat_of_nonneg (by omega)]
theorem untext_behind (s : ByteArray) (hs : s.size ≤ 100000) (l : List Int) : untextIs (vi s.size ++ bytesOf s ++ l) = (s, ((vi s.size ++ bytesOf s).length : Int), none) := by
  have hp := vi_pos s.size
  unfold untextIs
  rw [List.append_assoc, uv_vi s.size 0 0 _ (by omega) (by omega) (by omega)]
  simp only [List.length_append, bytesOf_len, Int.mul_one, Nat.mul_zero, Int.pow_zero, Int.zero_add]
  rw [if_neg (by omega)]
  have e1 : (((0 : Nat) : Int) + ((vi s.size).length : Int) + (s.size : Int)).toNat = (vi s.size ++ bytesOf s).length := by rw [List.length_append, bytesOf_len]; omega
  have e2 : (((0 : Nat) : Int) + ((vi s.size).length : Int)).toNat = (vi s.size).length := by omega
  rw [e1, e2, ← List.append_assoc, List.take_left, List.drop_left, str_bytesOf]
  congr 2; omega
theorem untext_cut (s : ByteArray) (hs : s.size ≤ 100000) (r : Nat) (hr : r < (vi s.size ++ bytesOf s).length) : untextIs ((vi s.size ++ bytesOf s).take r) = (⟨#[]⟩, 0, some 14) := by
  have hp := vi_pos s.size
  unfold untextIs
  rw [List.length_append, bytesOf_len] at hr
  by_cases h : r < (vi s.size).length
  · rw [List.take_append_of_le_length (by omega), uv_cut _ _ _ _ h, if_pos (.inl rfl)]
  · have e : (vi s.size ++ bytesOf s).take r = vi s.size ++ (bytesOf s).take (r - (vi s.size).length) := by
      rw [List.take_append, List.take_of_length_le (by omega)]
    rw [e, uv_vi s.size 0 0 _ (by omega) (by omega) (by omega)]
    simp only [List.length_append, List.length_take, bytesOf_len, Int.mul_one, Nat.mul_zero, Int.pow_zero, Int.zero_add]
    rw [if_pos (.inr (by omega))]
theorem BitsTexts : dolmenlaw1_BitsTexts.Pure := by
  intro v0 s l cut hv hs hmax hsz hb hc
  have hb' : ∀ c ∈ l, 0 ≤ c ∧ c < 256 := by
    intro c hc
    have := hb c hc
    simp [Lit.wf, IntKind.min, IntKind.max, IntKind.bits, IntKind.signed] at this
    omega
  simp [Lit.wf, IntKind.min, IntKind.max, IntKind.bits, IntKind.signed] at hv
  clear hc hb
  obtain ⟨v, rfl⟩ := Int.eq_ofNat_of_zero_le hv.1
  have hv64 : v < 2 ^ 64 := by omega
  have haw : ∀ k, 10 ≤ k → dolmenlaw1_awake.f k = some true := fun k h => at_rounds dolmenlaw1_awake.mono h awake_true
  refine ⟨200, ?_⟩
  unfold dolmenlaw1_BitsTexts.f
  by_cases g1 : (s.size : Int) > 2000
  · rw [if_pos g1, dolmenlaw1_BitsTexts.j0, if_pos rfl, haw _ (by omega)]; rfl
  by_cases g2 : (l.length : Int) > 100
  · rw [if_neg g1, dolmenlaw1_BitsTexts.j0, if_pos (by simpa using g2), haw _ (by omega)]; rfl
  rw [if_neg g1, dolmenlaw1_BitsTexts.j0, if_neg (by simpa using g2)]
  have hs2 : s.size ≤ 2000 := by omega
  have hl2 : l.length ≤ 100 := by omega
  have hp := vi_pos v
  have hq := vi_pos s.size
  have hpl := vi_len64 v hv64
  have hql := vi_len64 s.size (by omega)
  have hbl := bytesOf_len s
  rw [varint_f v hv64 _ (by omega), Option.bind_some]
  simp only [Option.bind_some, List.nil_append, List.length_nil]
  rw [if_pos (by omega), if_pos (by omega), unvarint_f _ (range_append (vi_range v) hb') _ (by omega), Option.bind_some, text_f s (by omega) _ (by omega), Option.bind_some]
  have hcl : (vi s.size ++ bytesOf s).length = (vi s.size).length + s.size := by rw [List.length_append, hbl]
  rw [if_pos (by omega), if_pos (by omega), untext_f _ (range_append (range_append (vi_range _) (bytesOf_range s)) hb') (by rw [List.length_append]; omega) _ (by omega), Option.bind_some]
  rw [if_neg (by omega), uv_vi v 0 0 l (by simpa using hv64) (by omega) (by omega), untext_behind s (by omega) l]
  rw [dolmenlaw1_BitsTexts.j1, if_neg (by simp; omega)]
  obtain ⟨r, hr, er⟩ := round_f cut (vi v).length hp (by omega)
  obtain ⟨q, hq2, eq⟩ := round_f cut (vi s.size ++ bytesOf s).length (by omega) (by omega)
  rw [er, Option.bind_some, if_pos (by omega), if_pos (by omega), Int.toNat_natCast, unvarint_f _ (fun c hc => vi_range v c (List.take_subset _ _ hc)) _ (by omega), Option.bind_some, eq, Option.bind_some, if_pos (by omega), if_pos (by omega), Int.toNat_natCast,
    untext_f _ (fun c hc => range_append (vi_range _) (bytesOf_range s) c (List.take_subset _ _ hc)) (by rw [List.length_take]; omega) _ (by omega), Option.bind_some, uv_cut _ _ _ _ hr, untext_cut s (by omega) q hq2]
  have hcode : codeOf 14 = 14 := by decide
  simp only [Nat.mul_zero, Int.pow_zero, Int.mul_one, Int.zero_add, dolmenalike_Code.f, hcode, Option.bind_some, if_true, Option.isNone_none, haw _ (show 10 ≤ 198 by omega)]
  simp
end Go.Proofs.Ytfonkhikdaegpaa.Pure
