/- BitsBack (chapter 1): bytes laid as words are read as they were, and as no other length of so many words, unless noughts stand there. Proved for all bytes and every length, no further condition. -/
import Derived.Test.YtfonkhikdaegpaaPBitsBackx2
import Derived.Test.YtfonkhikdaegpaaVar
namespace Go.Proofs.Ytfonkhikdaegpaa.Pure
open Go.RowKit Go.Proofs.Ytfonkhikdaegpaa.PBitsBack Go.Proofs.YtfonkhikdaegpaaW.PrintWords Go.Proofs.YtfonkhikdaegpaaW.PrintLast Go.Proofs.YtfonkhikdaegpaaW.PrintMore Go.Proofs.Ytfonkhikdaegpaa.Var
namespace BitsBackAid
theorem awake_true : dolmenlaw1_awake.f 10 = some true := by decide +kernel


theorem tdiv8 (i : Nat) (h : i < 4611686018427387904) : wrap64 (Int.tdiv (i : Int) 8) = ((i / 8 : Nat) : Int) := by
  rw [Int.tdiv_eq_ediv_of_nonneg (by omega)]; unfold wrap64; omega
theorem wrap_succ (i : Nat) (h : i < 4611686018427387904) : wrap64 ((i : Int) + 1) = ((i + 1 : Nat) : Int) := by unfold wrap64; omega
theorem tmod8 (i : Nat) : Int.tmod (i : Int) 8 = ((i % 8 : Nat) : Int) := by
  rw [Int.tmod_eq_emod_of_nonneg (by omega)]; omega
theorem mul8 (i : Nat) : wrap64 (8 * ((i % 8 : Nat) : Int)) = ((8 * (i % 8) : Nat) : Int) := by unfold wrap64; omega
theorem shl8 (c : Int) (r : Nat) (hr : r < 8) (c0 : 0 ≤ c) (c1 : c < 256) : shl .u64 (IntKind.u64.wrap c) ((8 * r : Nat) : Int) = IntKind.u64.wrap (c * 2 ^ (8 * r)) := by
  unfold shl
  rw [u64_wrap_in c c0 (by omega)]
  have : min (((8 * r : Nat) : Int).toNat) IntKind.u64.bits = 8 * r := by
    rw [Int.toNat_natCast]; apply Nat.min_eq_left; show _ ≤ 64; omega
  rw [this]
theorem words_l (b : List Int) (hb : ∀ c ∈ b, 0 ≤ c ∧ c < 256) (hl : b.length ≤ 100000000) (d : Nat) : ∀ (i k : Nat), i ≤ b.length → b.length - i = d → d < k →
    bits_Words.l0 k (ws (b.take i)) b (b.length : Int) (i : Int) = some (ws b) := by
  induction d with
  | zero =>
    intro i k hi hd hk
    obtain ⟨k, rfl⟩ : ∃ m, k = m + 1 := ⟨k - 1, by omega⟩
    rw [bits_Words.l0, if_neg (by omega), List.take_of_length_le (by omega)]
  | succ d ih =>
    intro i k hi hd hk
    obtain ⟨k, rfl⟩ : ∃ m, k = m + 1 := ⟨k - 1, by omega⟩
    have hlt : i < b.length := by omega
    have c1 : (i : Int) < (b.length : Int) := by omega
    have c0 : 0 ≤ (i : Int) := by omega
    have c2 : (0 : Int) ≤ ((8 * (i % 8) : Nat) : Int) := by omega
    have c3 : (0 : Int) ≤ ((i / 8 : Nat) : Int) := by omega
    have ib : i < 4611686018427387904 := by omega
    have hr8 : i % 8 < 8 := Nat.mod_lt _ (by decide)
    have hti : (b.take i).length = i := by simp; omega
    have hwl : (ws (b.take i)).length = (i + 7) / 8 := by rw [ws_len, hti]
    have c4 : (ws (b.take i)).length < 17592186044416 := by omega
    have e : (((i / 8 : Nat) : Int)).toNat = i / 8 := by omega
    have hnext := ih (i + 1) k (by omega) (by omega) (by omega)
    clear ih
    have z1 : i % 8 = 0 → ((i % 8 : Nat) : Int) = 0 ∧ i / 8 = (ws (b.take i)).length ∧ ((i / 8 : Nat) : Int) < (((ws (b.take i) ++ [0]).length : Nat) : Int) := by
      intro h; rw [List.length_append, hwl]; refine ⟨by omega, by omega, ?_⟩; simp; omega
    have z2 : i % 8 ≠ 0 → ¬ ((i % 8 : Nat) : Int) = 0 ∧ ((i / 8 : Nat) : Int) < (((ws (b.take i)).length : Nat) : Int) := by
      intro h; rw [hwl]; omega
    have hc := hb b[i] (List.getElem_mem hlt)
    have hrd : rd b (i : Int) = b[i] := by simp [rd, hlt]
    have hw2 : wrap64 ((i : Int) + 1) = ((i + 1 : Nat) : Int) := wrap_succ i ib
    have hs : ws (b.take (i + 1)) = ws (b.take i ++ [b[i]]) := by rw [List.take_succ_eq_append_getElem hlt]
    rw [ws_snoc, hti] at hs
    rw [bits_Words.l0, if_pos c1, if_pos c0, if_pos c1, tdiv8 i ib, tmod8 i, mul8 i, hrd, hw2, shl8 _ _ hr8 hc.1 hc.2]
    clear hw2 hrd
    by_cases h8 : i % 8 = 0
    · rw [if_pos h8] at hs
      obtain ⟨y1, y2, y3⟩ := z1 h8
      rw [if_pos y1, if_pos c4]
      simp only [Option.bind_some]
      rw [if_pos c3, if_pos y3, if_pos c2]
      have e2 : rd (ws (b.take i) ++ [0]) ((i / 8 : Nat) : Int) = 0 := by rw [rd, e, y2]; simp
      rw [e2, e, h8, or_at 0 _ 0 (by decide) (by decide) (by decide) hc.1 hc.2, y2]
      rw [List.set_append_right _ _ (Nat.le_refl _)]
      simp only [Nat.sub_self, List.set_cons_zero, Int.pow_zero, Int.mul_one, Int.zero_add]
      rw [← hs]
      exact hnext
    · rw [if_neg h8] at hs
      obtain ⟨y1, y3⟩ := z2 h8
      have hlast := ws_last (b.take i) (fun c hc => hb c (List.take_subset _ _ hc)) (by rw [hti]; exact h8)
      rw [hti] at hlast
      rw [if_neg y1, if_pos c3, if_pos y3, if_pos c2]
      have e2 : rd (ws (b.take i)) ((i / 8 : Nat) : Int) = (ws (b.take i)).getD (i / 8) 0 := by rw [rd, e]
      rw [e2, e, or_at _ _ _ hr8 hlast.1 hlast.2 hc.1 hc.2, ← hs]
      exact hnext
theorem words_f (b : List Int) (hb : ∀ c ∈ b, 0 ≤ c ∧ c < 256) (hl : b.length ≤ 100000000) (k : Nat) (hk : b.length < k) : bits_Words.f k b = some (ws b) := by
  unfold bits_Words.f
  have := words_l b hb hl b.length 0 k (by omega) (by omega) hk
  rw [List.take_zero, ws_nil] at this
  exact this

theorem shr8 (x : Int) (r : Nat) (hr : r < 8) : shr .u64 x ((8 * r : Nat) : Int) = x / 256 ^ r := by
  unfold shr
  have : min (((8 * r : Nat) : Int).toNat) IntKind.u64.bits = 8 * r := by
    rw [Int.toNat_natCast]; apply Nat.min_eq_left; show _ ≤ 64; omega
  rw [this, pow256]
theorem bs_at (w : List Int) (i : Nat) (hi : i < 8 * w.length) : (shr .u64 (rd w ((i / 8 : Nat) : Int)) ((8 * (i % 8) : Nat) : Int)) % 256 = (bs w)[i]'(by rw [bs_len]; exact hi) := by
  have hl : i / 8 < w.length := by omega
  rw [shr8 _ _ (Nat.mod_lt _ (by decide)), bs_get w i hi, rd, Int.toNat_natCast, List.getD_eq_getElem?_getD, List.getElem?_eq_getElem hl]; rfl
/-- What Bytes tells: the bytes and the error. -/
def bytesIs (w : List Int) (n : Int) : List Int × Option Int :=
  if n < 0 ∨ n > 8 * w.length ∨ 8 * w.length - n ≥ 8 then ([], some 14)
  else if (bs w).drop n.toNat = List.replicate (8 * w.length - n.toNat) 0 then ((bs w).take n.toNat, none) else ([], some 14)
theorem drop_zeros (l : List Int) (n i : Nat) (hi : i < l.length) (hn : n ≤ i) (hz : (l.take i).drop n = List.replicate (i - n) 0) : (l[i] = 0 → (l.take (i + 1)).drop n = List.replicate (i + 1 - n) 0) ∧ (l[i] ≠ 0 → l.drop n ≠ List.replicate (l.length - n) 0) := by
  constructor
  · intro h0
    rw [List.take_succ_eq_append_getElem hi, List.drop_append_of_le_length (by simp; omega), hz, h0, show i + 1 - n = (i - n) + 1 from by omega, List.replicate_succ']
  · intro h0 h
    have : (l.drop n)[i - n]? = some l[i] := by rw [List.getElem?_drop, show n + (i - n) = i from by omega, List.getElem?_eq_getElem hi]
    rw [h, List.getElem?_replicate] at this
    split at this
    · exact h0 (Option.some.inj this).symm
    · simp at this
theorem bytes_l (w : List Int) (hl : w.length ≤ 100000000) (n : Nat) (hn : n ≤ 8 * w.length) (d : Nat) : ∀ (i k : Nat), i ≤ 8 * w.length → 8 * w.length - i = d → d < k → ((bs w).take i).drop n = List.replicate (i - n) 0 →
    bits_Bytes.l0 k w (n : Int) ((bs w).take (min i n)) ((8 * w.length : Nat) : Int) (i : Int) = some (if (bs w).drop n = List.replicate (8 * w.length - n) 0 then ((bs w).take n, none) else ([], some 14)) := by
  induction d with
  | zero =>
    intro i k hi hd hk hz
    obtain ⟨k, rfl⟩ : ∃ m, k = m + 1 := ⟨k - 1, by omega⟩
    have hi' : i = 8 * w.length := by omega
    rw [List.take_of_length_le (by rw [bs_len]; omega), hi'] at hz
    rw [bits_Bytes.l0, if_neg (by omega), if_pos hz, Nat.min_eq_right (by omega)]
  | succ d ih =>
    intro i k hi hd hk hz
    obtain ⟨k, rfl⟩ : ∃ m, k = m + 1 := ⟨k - 1, by omega⟩
    have hlt : i < 8 * w.length := by omega
    have hlt' : i < (bs w).length := by rw [bs_len]; exact hlt
    have hw2 : wrap64 ((i : Int) + 1) = ((i + 1 : Nat) : Int) := by unfold wrap64; omega
    rw [bits_Bytes.l0, if_pos (by omega), tdiv8 i (by omega), tmod8 i, mul8 i, hw2, bs_at w i hlt, if_pos (by omega), if_pos (by omega), if_pos (by omega)]
    clear hw2
    by_cases h : i < n
    · rw [if_pos (by omega), if_pos (by simp [bs_len]; omega)]
      have e : (bs w).take (min i n) ++ [(bs w)[i]] = (bs w).take (min (i + 1) n) := by
        rw [Nat.min_eq_left (by omega), Nat.min_eq_left (by omega), List.take_succ_eq_append_getElem hlt']
      rw [e]
      refine ih (i + 1) k (by omega) (by omega) (by omega) ?_
      rw [List.drop_eq_nil_of_le (by simp; omega), show i + 1 - n = 0 from by omega]; rfl
    · rw [if_neg (by omega)]
      have hd := drop_zeros (bs w) n i hlt' (by omega) hz
      by_cases h0 : (bs w)[i] = 0
      · rw [if_pos h0]
        have e : (bs w).take (min i n) = (bs w).take (min (i + 1) n) := by congr 1; omega
        rw [e]
        exact ih (i + 1) k (by omega) (by omega) (by omega) (hd.1 h0)
      · have := hd.2 h0
        rw [bs_len] at this
        rw [if_neg h0, if_neg this]
theorem bytes_f (w : List Int) (hl : w.length ≤ 100000000) (n : Int) (hn : n ≤ 1099511627776) (hn0 : -9223372036854775808 ≤ n) (k : Nat) (hk : 8 * w.length + 1 < k) : bits_Bytes.f k w n = some (bytesIs w n) := by
  obtain ⟨k, rfl⟩ : ∃ m, k = m + 1 := ⟨k - 1, by omega⟩
  have hw : wrap64 (8 * (w.length : Int)) = ((8 * w.length : Nat) : Int) := by unfold wrap64; omega
  unfold bits_Bytes.f bytesIs
  rw [hw]
  by_cases h0 : n < 0
  · rw [if_pos h0, bits_Bytes.j0, if_pos rfl, if_pos (.inl h0)]
  by_cases h1 : n > 8 * (w.length : Int)
  · rw [if_neg h0, if_pos (by omega), bits_Bytes.j0, if_pos rfl, if_pos (.inr (.inl h1))]
  have hs : wrap64 (((8 * w.length : Nat) : Int) - n) = 8 * (w.length : Int) - n := by unfold wrap64; omega
  rw [if_neg h0, if_neg (by omega), hs, bits_Bytes.j0]
  by_cases h2 : 8 * (w.length : Int) - n ≥ 8
  · rw [if_pos (by simpa using h2), if_pos (.inr (.inr h2))]
  · rw [if_neg (by simpa using h2), if_neg (by omega)]
    obtain ⟨m, rfl⟩ := Int.eq_ofNat_of_zero_le (show 0 ≤ n by omega)
    rw [Int.toNat_natCast]
    have := bytes_l w hl m (by omega) (8 * w.length) 0 k (by omega) (by omega) (by omega) (by simp)
    rw [hw]
    simpa using this

theorem strOfNums_inj (a b : List Int) (ha : ∀ c ∈ a, 0 ≤ c ∧ c < 256) (hb : ∀ c ∈ b, 0 ≤ c ∧ c < 256) (h : (strOfNums a).toList = (strOfNums b).toList) : a = b := by
  have key : ∀ l : List Int, (∀ c ∈ l, 0 ≤ c ∧ c < 256) → (strOfNums l).toList.map (fun u => (u.toNat : Int)) = l := by
    intro l hl
    have : (strOfNums l).toList = l.map fun n => UInt8.ofNat n.toNat := by
      simp [strOfNums, Go.ByteArray.toList_eq]
    rw [this, List.map_map]
    conv => rhs; rw [← List.map_id l]
    apply List.map_congr_left
    intro c hc
    have := hl c hc
    simp [UInt8.toNat_ofNat']
    omega
  rw [← key a ha, ← key b hb, h]

end BitsBackAid
open BitsBackAid
theorem back_l (b w y : List Int) (n : Nat) (hlen : b.length ≤ 2000) (hz : ∀ i (h : i < b.length), n ≤ i → b[i] = 0) (hy : y.length = n) (hn : n ≤ 4000) (hw : (n + 7) / 8 = w.length) (d : Nat) : ∀ i k : Nat, i ≤ b.length → n ≤ i ∨ i = b.length → b.length - i = d → d + 12 < k →
    dolmenlaw1_BitsBack.l0 k b (n : Int) w y (i : Int) = some true := by
  induction d with
  | zero =>
    intro i k hi hin hd hk
    obtain ⟨k, rfl⟩ : ∃ m, k = m + 1 := ⟨k - 1, by omega⟩
    have hwr : wrap64 ((n : Int) + 7) = ((n + 7 : Nat) : Int) := by unfold wrap64; omega
    have ht := tdiv8 (n + 7) (by omega)
    rw [dolmenlaw1_BitsBack.l0, if_neg (by omega), if_pos (by omega), hwr, ht, if_pos (by omega), at_rounds dolmenlaw1_awake.mono (show 10 ≤ k by omega) awake_true]; rfl
  | succ d ih =>
    intro i k hi hin hd hk
    obtain ⟨k, rfl⟩ : ∃ m, k = m + 1 := ⟨k - 1, by omega⟩
    have hlt : i < b.length := by omega
    have hnext := ih (i + 1) k (by omega) (by omega) (by omega) (by omega)
    have h0 := hz i hlt (by omega)
    have hrd : rd b (i : Int) = 0 := by simp [rd, hlt, h0]
    rw [dolmenlaw1_BitsBack.l0, if_pos (by omega), if_pos (by omega), if_pos hrd, wrap_succ i (by omega)]
    exact hnext
theorem BitsBack : dolmenlaw1_BitsBack.Pure := by
  intro b n hmax hsz hb hn
  have hb' : ∀ c ∈ b, 0 ≤ c ∧ c < 256 := by
    intro c hc
    have := hb c hc
    simp [Lit.wf, IntKind.min, IntKind.max, IntKind.bits, IntKind.signed] at this
    omega
  simp [Lit.wf, IntKind.min, IntKind.max, IntKind.bits, IntKind.signed] at hn
  have haw : ∀ k, 10 ≤ k → dolmenlaw1_awake.f k = some true := fun k h => at_rounds dolmenlaw1_awake.mono h awake_true
  refine ⟨20000, ?_⟩
  unfold dolmenlaw1_BitsBack.f
  by_cases g1 : (b.length : Int) > 2000
  · rw [if_pos g1, dolmenlaw1_BitsBack.j0, if_pos rfl, haw _ (by omega)]; rfl
  by_cases g2 : n < 0
  · rw [if_neg g1, if_pos g2, dolmenlaw1_BitsBack.j0, if_pos rfl, haw _ (by omega)]; rfl
  by_cases g3 : n > 4000
  · rw [if_neg g1, if_neg g2, dolmenlaw1_BitsBack.j0, if_pos (by simpa using g3), haw _ (by omega)]; rfl
  rw [if_neg g1, if_neg g2, dolmenlaw1_BitsBack.j0, if_neg (by simpa using g3)]
  have hlen : b.length ≤ 2000 := by omega
  have hwl := ws_len b
  have hbw := bs_ws b hb'
  have hb1 : bytesIs (ws b) (b.length : Int) = (b, none) := by
    unfold bytesIs
    rw [hwl, Int.toNat_natCast, hbw, if_neg (by omega), List.drop_left, if_pos rfl, List.take_left]
  obtain ⟨m, rfl⟩ := Int.eq_ofNat_of_zero_le (show 0 ≤ n by omega)
  have ht := tdiv8 (b.length + 7) (by omega)
  have hwr : wrap64 ((b.length : Int) + 7) = ((b.length + 7 : Nat) : Int) := by unfold wrap64; omega
  rw [words_f b hb' (by omega) _ (by omega), Option.bind_some, bytes_f (ws b) (by omega) _ (by omega) (by omega) _ (by omega), Option.bind_some, hb1]
  simp only [Option.isNone_none, if_true]
  rw [hwr, ht, hwl, dolmenlaw1_BitsBack.j1, if_neg (by simp), bytes_f (ws b) (by omega) _ (by omega) (by omega) _ (by omega), Option.bind_some]
  clear hwr ht
  unfold bytesIs
  rw [hwl, Int.toNat_natCast, hbw]
  have hcode : codeOf 14 = 14 := by decide
  have hbad : ∀ K, 10 ≤ K → m ≠ b.length → (if ((([] : List Int).length : Nat) : Int) = 0 then (dolmenalike_Code.f (some ((some (14 : Int)).getD 0))).bind fun t147 => if t147 = 14 then (if (m : Int) = (b.length : Int) then some false else (dolmenlaw1_awake.f K).bind fun t148 => some t148) else some false else some false) = some true := by
    intro K hK hne
    rw [if_pos (show ((([] : List Int).length : Nat) : Int) = 0 from rfl)]
    simp only [dolmenalike_Code.f, Option.getD_some, Option.bind_some, hcode]
    rw [if_true, if_neg (by omega), haw _ hK]; rfl
  by_cases c1 : (m : Int) < 0 ∨ (m : Int) > 8 * ((b.length + 7) / 8 : Nat) ∨ 8 * ((b.length + 7) / 8 : Nat) - (m : Int) ≥ 8
  · rw [if_pos c1]
    simp only [Option.isNone_some]
    rw [if_neg (by simp)]
    exact hbad _ (by omega) (by rintro rfl; omega)
  · rw [if_neg c1]
    have hm : m ≤ 8 * ((b.length + 7) / 8) := by omega
    by_cases c2 : (b ++ List.replicate (8 * ((b.length + 7) / 8) - b.length) 0).drop m = List.replicate (8 * ((b.length + 7) / 8) - m) 0
    · rw [if_pos c2]
      simp only [Option.isNone_none, if_true]
      have hmin : mn (m : Int) (b.length : Int) = ((min m b.length : Nat) : Int) := by unfold mn; split <;> omega
      rw [hmin]
      refine back_l b _ _ m hlen ?_ (by simp; omega) (by omega) (by omega) (b.length - min m b.length) _ _ (by omega) (by omega) rfl (by omega)
      intro i hi hmi
      have := congrArg (fun l => l[i - m]?) c2
      simp only [List.getElem?_drop, List.getElem?_replicate] at this
      rw [show m + (i - m) = i from by omega, List.getElem?_append_left hi, List.getElem?_eq_getElem hi, if_pos (by omega)] at this
      exact Option.some.inj this
    · rw [if_neg c2]
      simp only [Option.isNone_some]
      rw [if_neg (by simp)]
      exact hbad _ (by omega) (by rintro rfl; exact c2 (by rw [List.drop_left]))
end Go.Proofs.Ytfonkhikdaegpaa.Pure
