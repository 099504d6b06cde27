/- BitsAsks (chapter 1): any bytes are laid as words, any words read as bytes, or refused; any word is turned. Proved for all bytes, words and every length, no further condition. -/
import Derived.Test.YtfonkhikdaegpaaPBitsAsksx4
import Derived.Test.YtfonkhikdaegpaaVar
namespace Go.Proofs.Ytfonkhikdaegpaa.Pure
open Go.RowKit Go.Proofs.Ytfonkhikdaegpaa.PBitsAsks Go.Proofs.YtfonkhikdaegpaaW.PrintWords Go.Proofs.YtfonkhikdaegpaaW.PrintLast Go.Proofs.YtfonkhikdaegpaaW.PrintMore Go.Proofs.Ytfonkhikdaegpaa.Var
namespace BitsAsksAid
theorem awake_true : dolmenlaw1_awake.f 10 = some true := by decide +kernel


theorem u64_wrap_nat (n : Nat) : IntKind.u64.wrap (n : Int) = ((n % 2 ^ 64 : Nat) : Int) := by
  simp [IntKind.wrap, IntKind.bits, IntKind.signed]
theorem u64_and (x y : BitVec 64) : Go.bits .and .u64 (x.toNat : Int) (y.toNat : Int) = ((x &&& y).toNat : Int) := by
  unfold Go.bits
  simp only [IntKind.bits, BitVec.ofInt_natCast, BitVec.ofNat_toNat, BitVec.setWidth_eq]
  rw [u64_wrap_nat, Nat.mod_eq_of_lt (BitVec.isLt _)]; rfl
theorem u64_or (x y : BitVec 64) : Go.bits .or .u64 (x.toNat : Int) (y.toNat : Int) = ((x ||| y).toNat : Int) := by
  unfold Go.bits
  simp only [IntKind.bits, BitVec.ofInt_natCast, BitVec.ofNat_toNat, BitVec.setWidth_eq]
  rw [u64_wrap_nat, Nat.mod_eq_of_lt (BitVec.isLt _)]; rfl
theorem u64_shr (x : BitVec 64) (k : Nat) : (x.toNat : Int) / ((2 ^ k : Nat) : Int) = ((x >>> k).toNat : Int) := by
  rw [BitVec.toNat_ushiftRight, Nat.shiftRight_eq_div_pow]; simp
theorem u64_shl (x : BitVec 64) (k : Nat) : IntKind.u64.wrap ((x.toNat : Int) * ((2 ^ k : Nat) : Int)) = ((x <<< k).toNat : Int) := by
  rw [BitVec.toNat_shiftLeft, Nat.shiftLeft_eq, ← Int.natCast_mul, u64_wrap_nat]

def rev8 (x : BitVec 64) : BitVec 64 :=
  let a := ((x >>> 8) &&& 71777214294589695#64) ||| ((x &&& 71777214294589695#64) <<< 8)
  let b := ((a >>> 16) &&& 281470681808895#64) ||| ((a &&& 281470681808895#64) <<< 16)
  (b >>> 32) ||| (b <<< 32)

theorem rev_f (x : BitVec 64) : bits_ReverseBytes64.f (x.toNat : Int) = some ((rev8 x).toNat : Int) := by
  unfold bits_ReverseBytes64.f rev8
  have e1 : (71777214294589695 : Int) = ((71777214294589695#64).toNat : Int) := by decide
  have e2 : (281470681808895 : Int) = ((281470681808895#64).toNat : Int) := by decide
  have s8 : (256 : Int) = ((2 ^ 8 : Nat) : Int) := by decide
  have s16 : (65536 : Int) = ((2 ^ 16 : Nat) : Int) := by decide
  have s32 : (4294967296 : Int) = ((2 ^ 32 : Nat) : Int) := by decide
  rw [e1, e2, s8, s16, s32]
  simp only [u64_and, u64_or, u64_shr, u64_shl]

theorem m1_bit : ∀ j : Fin 64, (71777214294589695#64).getLsbD j.val = decide (j.val / 8 % 2 = 0) := by decide +kernel
theorem m2_bit : ∀ j : Fin 64, (281470681808895#64).getLsbD j.val = decide (j.val / 16 % 2 = 0) := by decide +kernel

def a8 (x : BitVec 64) : BitVec 64 := ((x >>> 8) &&& 71777214294589695#64) ||| ((x &&& 71777214294589695#64) <<< 8)
def b8 (a : BitVec 64) : BitVec 64 := ((a >>> 16) &&& 281470681808895#64) ||| ((a &&& 281470681808895#64) <<< 16)
def c8 (b : BitVec 64) : BitVec 64 := (b >>> 32) ||| (b <<< 32)
theorem rev8_eq (x : BitVec 64) : rev8 x = c8 (b8 (a8 x)) := rfl
theorem a8_bit (x : BitVec 64) (i : Nat) (h : i < 64) : (a8 x).getLsbD i = x.getLsbD (if i / 8 % 2 = 0 then i + 8 else i - 8) := by
  unfold a8
  simp only [BitVec.getLsbD_or, BitVec.getLsbD_and, BitVec.getLsbD_ushiftRight, BitVec.getLsbD_shiftLeft]
  rw [m1_bit ⟨i, h⟩]
  by_cases e : i / 8 % 2 = 0
  · rw [if_pos e]
    by_cases l : i < 8
    · simp [e, l, h, Nat.add_comm]
    · have := m1_bit ⟨i - 8, by omega⟩
      simp only at this
      rw [this]
      have : ¬ (i - 8) / 8 % 2 = 0 := by omega
      simp [e, this, Nat.add_comm]
  · rw [if_neg e]
    have l : ¬ i < 8 := by omega
    have := m1_bit ⟨i - 8, by omega⟩
    simp only at this
    rw [this]
    have : (i - 8) / 8 % 2 = 0 := by omega
    simp [e, l, h, this]
theorem b8_bit (x : BitVec 64) (i : Nat) (h : i < 64) : (b8 x).getLsbD i = x.getLsbD (if i / 16 % 2 = 0 then i + 16 else i - 16) := by
  unfold b8
  simp only [BitVec.getLsbD_or, BitVec.getLsbD_and, BitVec.getLsbD_ushiftRight, BitVec.getLsbD_shiftLeft]
  rw [m2_bit ⟨i, h⟩]
  by_cases e : i / 16 % 2 = 0
  · rw [if_pos e]
    by_cases l : i < 16
    · simp [e, l, h, Nat.add_comm]
    · have := m2_bit ⟨i - 16, by omega⟩
      simp only at this
      rw [this]
      have : ¬ (i - 16) / 16 % 2 = 0 := by omega
      simp [e, this, Nat.add_comm]
  · rw [if_neg e]
    have l : ¬ i < 16 := by omega
    have := m2_bit ⟨i - 16, by omega⟩
    simp only at this
    rw [this]
    have : (i - 16) / 16 % 2 = 0 := by omega
    simp [e, l, h, this]
theorem c8_bit (x : BitVec 64) (i : Nat) (h : i < 64) : (c8 x).getLsbD i = x.getLsbD (if i < 32 then i + 32 else i - 32) := by
  unfold c8
  simp only [BitVec.getLsbD_or, BitVec.getLsbD_ushiftRight, BitVec.getLsbD_shiftLeft]
  by_cases l : i < 32
  · simp [l, h, Nat.add_comm]
  · have : 64 ≤ 32 + i := by omega
    simp [l, h, BitVec.getLsbD_of_ge _ _ this]
theorem rev8_bit (x : BitVec 64) (i : Nat) (h : i < 64) : (rev8 x).getLsbD i = x.getLsbD (8 * (7 - i / 8) + i % 8) := by
  rw [rev8_eq, c8_bit _ _ h, b8_bit _ _ (by split <;> omega), a8_bit _ _ (by split <;> split <;> omega)]
  congr 1
  by_cases h1 : i < 32 <;> simp only [h1, if_true, if_false]
  · by_cases h2 : (i + 32) / 16 % 2 = 0 <;> simp only [h2, if_true, if_false] <;> split <;> omega
  · by_cases h2 : (i - 32) / 16 % 2 = 0 <;> simp only [h2, if_true, if_false] <;> split <;> omega
theorem rev8_rev8 (x : BitVec 64) : rev8 (rev8 x) = x := by
  apply BitVec.eq_of_getLsbD_eq
  intro i h
  rw [rev8_bit _ _ h, rev8_bit _ _ (by omega)]
  congr 1; omega
theorem rev8_low (x : BitVec 64) : rev8 x &&& 255#64 = x >>> 56 := by
  apply BitVec.eq_of_getLsbD_eq
  intro i h
  have h255 : ∀ j : Fin 64, (255#64).getLsbD j.val = decide (j.val < 8) := by decide +kernel
  rw [BitVec.getLsbD_and, rev8_bit _ _ h, h255 ⟨i, h⟩, BitVec.getLsbD_ushiftRight]
  by_cases l : i < 8
  · simp only [l, decide_true, Bool.and_true]; congr 1; omega
  · simp only [l, decide_false, Bool.and_false]; rw [BitVec.getLsbD_of_ge _ _ (by omega)]
theorem rev8_high (x : BitVec 64) : (rev8 x) >>> 56 = x &&& 255#64 := by
  have := rev8_low (rev8 x)
  rw [rev8_rev8] at this
  exact this.symm

theorem turn_f (x : BitVec 64) : bits_Turn.f (x.toNat : Int) = some ((rev8 x).toNat : Int) := by
  unfold bits_Turn.f
  rw [rev_f]; rfl
theorem of_u64 (a : Int) (h : (Lit.int .u64 a).wf = true) : ∃ x : BitVec 64, a = (x.toNat : Int) := by
  simp [Lit.wf, IntKind.min, IntKind.max, IntKind.bits, IntKind.signed] at h
  exact ⟨BitVec.ofNat 64 a.toNat, by rw [BitVec.toNat_ofNat]; omega⟩
theorem toNat_cast_inj (x y : BitVec 64) : ((x.toNat : Int) == (y.toNat : Int)) = (x == y) := by
  rw [Bool.eq_iff_iff, beq_iff_eq, beq_iff_eq]
  constructor
  · intro h; exact BitVec.eq_of_toNat_eq (by omega)
  · rintro rfl; rfl

/-- The reference's turning, round by round. -/
def rt (x : BitVec 64) : Nat → BitVec 64
  | 0 => 0#64
  | i + 1 => (rt x i <<< 8) ||| ((x >>> (8 * i)) &&& 255#64)
theorem rt_bit (x : BitVec 64) (i : Nat) (hi : i ≤ 8) (j : Nat) (hj : j < 64) : (rt x i).getLsbD j = (decide (j < 8 * i) && x.getLsbD (8 * (i - 1 - j / 8) + j % 8)) := by
  induction i generalizing j with
  | zero => simp [rt]
  | succ i ih =>
    have h255 : ∀ j : Fin 64, (255#64).getLsbD j.val = decide (j.val < 8) := by decide +kernel
    rw [rt, BitVec.getLsbD_or, BitVec.getLsbD_shiftLeft, BitVec.getLsbD_and, h255 ⟨j, hj⟩, BitVec.getLsbD_ushiftRight]
    by_cases h : j < 8
    · have e : 8 * (i + 1 - 1 - j / 8) + j % 8 = 8 * i + j := by omega
      have h2 : j < 8 * (i + 1) := by omega
      rw [e]; simp [h, h2, hj]
    · rw [ih (by omega) (j - 8) (by omega)]
      have e : 8 * (i + 1 - 1 - j / 8) + j % 8 = 8 * (i - 1 - (j - 8) / 8) + (j - 8) % 8 := by omega
      have h2 : decide (j - 8 < 8 * i) = decide (j < 8 * (i + 1)) := by rw [Bool.eq_iff_iff]; simp; omega
      rw [e, h2]; simp [h, hj]
theorem rt_rev (x : BitVec 64) : rt x 8 = rev8 x := by
  apply BitVec.eq_of_getLsbD_eq
  intro j hj
  rw [rt_bit _ _ (by omega) _ hj, rev8_bit _ _ hj]
  have : j < 8 * 8 := by omega
  simp [this]
theorem refturn_l (x : BitVec 64) (d : Nat) : ∀ i k : Nat, i ≤ 8 → 8 - i = d → d < k → dolmenref1_Turn.l0 k (x.toNat : Int) ((rt x i).toNat : Int) (i : Int) = some ((rt x 8).toNat : Int) := by
  induction d with
  | zero =>
    intro i k hi hd hk
    obtain ⟨k, rfl⟩ : ∃ m, k = m + 1 := ⟨k - 1, by omega⟩
    obtain rfl : i = 8 := by omega
    rw [dolmenref1_Turn.l0, if_neg (by decide)]
  | succ d ih =>
    intro i k hi hd hk
    obtain ⟨k, rfl⟩ : ∃ m, k = m + 1 := ⟨k - 1, by omega⟩
    have hnext := ih (i + 1) k (by omega) (by omega) (by omega)
    have e1 : wrap64 (8 * (i : Int)) = ((8 * i : Nat) : Int) := by unfold wrap64; omega
    have e2 : wrap64 ((i : Int) + 1) = ((i + 1 : Nat) : Int) := by unfold wrap64; omega
    have e3 : shr .u64 (x.toNat : Int) ((8 * i : Nat) : Int) = ((x >>> (8 * i)).toNat : Int) := by
      unfold shr
      have : min (((8 * i : Nat) : Int).toNat) IntKind.u64.bits = 8 * i := by
        rw [Int.toNat_natCast]; apply Nat.min_eq_left; show _ ≤ 64; omega
      rw [this, ← u64_shr]; norm_cast
    have e255 : (255 : Int) = ((255#64).toNat : Int) := by decide
    have e8 : (256 : Int) = ((2 ^ 8 : Nat) : Int) := by decide
    rw [dolmenref1_Turn.l0, if_pos (by omega), e1, e2, if_pos (by omega), e3, e255, e8, u64_and, u64_shl, u64_or]
    exact hnext
theorem refturn_f (x : BitVec 64) (k : Nat) (hk : 8 < k) : dolmenref1_Turn.f k (x.toNat : Int) = some ((rev8 x).toNat : Int) := by
  unfold dolmenref1_Turn.f
  have := refturn_l x 8 0 k (by omega) (by omega) hk
  rw [rt_rev] at this
  exact this

theorem tdiv8 (i : Nat) (h : i < 4611686018427387904) : wrap64 (Int.tdiv (i : Int) 8) = ((i / 8 : Nat) : Int) := by
  rw [Int.tdiv_eq_ediv_of_nonneg (by omega)]; unfold wrap64; omega
theorem wrap_succ (i : Nat) (h : i < 4611686018427387904) : wrap64 ((i : Int) + 1) = ((i + 1 : Nat) : Int) := by unfold wrap64; omega
theorem tmod8 (i : Nat) : Int.tmod (i : Int) 8 = ((i % 8 : Nat) : Int) := by
  rw [Int.tmod_eq_emod_of_nonneg (by omega)]; omega
theorem mul8 (i : Nat) : wrap64 (8 * ((i % 8 : Nat) : Int)) = ((8 * (i % 8) : Nat) : Int) := by unfold wrap64; omega
theorem shl8 (c : Int) (r : Nat) (hr : r < 8) (c0 : 0 ≤ c) (c1 : c < 256) : shl .u64 (IntKind.u64.wrap c) ((8 * r : Nat) : Int) = IntKind.u64.wrap (c * 2 ^ (8 * r)) := by
  unfold shl
  rw [u64_wrap_in c c0 (by omega)]
  have : min (((8 * r : Nat) : Int).toNat) IntKind.u64.bits = 8 * r := by
    rw [Int.toNat_natCast]; apply Nat.min_eq_left; show _ ≤ 64; omega
  rw [this]
theorem words_l (b : List Int) (hb : ∀ c ∈ b, 0 ≤ c ∧ c < 256) (hl : b.length ≤ 100000000) (d : Nat) : ∀ (i k : Nat), i ≤ b.length → b.length - i = d → d < k →
    bits_Words.l0 k (ws (b.take i)) b (b.length : Int) (i : Int) = some (ws b) := by
  induction d with
  | zero =>
    intro i k hi hd hk
    obtain ⟨k, rfl⟩ : ∃ m, k = m + 1 := ⟨k - 1, by omega⟩
    rw [bits_Words.l0, if_neg (by omega), List.take_of_length_le (by omega)]
  | succ d ih =>
    intro i k hi hd hk
    obtain ⟨k, rfl⟩ : ∃ m, k = m + 1 := ⟨k - 1, by omega⟩
    have hlt : i < b.length := by omega
    have c1 : (i : Int) < (b.length : Int) := by omega
    have c0 : 0 ≤ (i : Int) := by omega
    have c2 : (0 : Int) ≤ ((8 * (i % 8) : Nat) : Int) := by omega
    have c3 : (0 : Int) ≤ ((i / 8 : Nat) : Int) := by omega
    have ib : i < 4611686018427387904 := by omega
    have hr8 : i % 8 < 8 := Nat.mod_lt _ (by decide)
    have hti : (b.take i).length = i := by simp; omega
    have hwl : (ws (b.take i)).length = (i + 7) / 8 := by rw [ws_len, hti]
    have c4 : (ws (b.take i)).length < 17592186044416 := by omega
    have e : (((i / 8 : Nat) : Int)).toNat = i / 8 := by omega
    have hnext := ih (i + 1) k (by omega) (by omega) (by omega)
    clear ih
    have z1 : i % 8 = 0 → ((i % 8 : Nat) : Int) = 0 ∧ i / 8 = (ws (b.take i)).length ∧ ((i / 8 : Nat) : Int) < (((ws (b.take i) ++ [0]).length : Nat) : Int) := by
      intro h; rw [List.length_append, hwl]; refine ⟨by omega, by omega, ?_⟩; simp; omega
    have z2 : i % 8 ≠ 0 → ¬ ((i % 8 : Nat) : Int) = 0 ∧ ((i / 8 : Nat) : Int) < (((ws (b.take i)).length : Nat) : Int) := by
      intro h; rw [hwl]; omega
    have hc := hb b[i] (List.getElem_mem hlt)
    have hrd : rd b (i : Int) = b[i] := by simp [rd, hlt]
    have hw2 : wrap64 ((i : Int) + 1) = ((i + 1 : Nat) : Int) := wrap_succ i ib
    have hs : ws (b.take (i + 1)) = ws (b.take i ++ [b[i]]) := by rw [List.take_succ_eq_append_getElem hlt]
    rw [ws_snoc, hti] at hs
    rw [bits_Words.l0, if_pos c1, if_pos c0, if_pos c1, tdiv8 i ib, tmod8 i, mul8 i, hrd, hw2, shl8 _ _ hr8 hc.1 hc.2]
    clear hw2 hrd
    by_cases h8 : i % 8 = 0
    · rw [if_pos h8] at hs
      obtain ⟨y1, y2, y3⟩ := z1 h8
      rw [if_pos y1, if_pos c4]
      simp only [Option.bind_some]
      rw [if_pos c3, if_pos y3, if_pos c2]
      have e2 : rd (ws (b.take i) ++ [0]) ((i / 8 : Nat) : Int) = 0 := by rw [rd, e, y2]; simp
      rw [e2, e, h8, or_at 0 _ 0 (by decide) (by decide) (by decide) hc.1 hc.2, y2]
      rw [List.set_append_right _ _ (Nat.le_refl _)]
      simp only [Nat.sub_self, List.set_cons_zero, Int.pow_zero, Int.mul_one, Int.zero_add]
      rw [← hs]
      exact hnext
    · rw [if_neg h8] at hs
      obtain ⟨y1, y3⟩ := z2 h8
      have hlast := ws_last (b.take i) (fun c hc => hb c (List.take_subset _ _ hc)) (by rw [hti]; exact h8)
      rw [hti] at hlast
      rw [if_neg y1, if_pos c3, if_pos y3, if_pos c2]
      have e2 : rd (ws (b.take i)) ((i / 8 : Nat) : Int) = (ws (b.take i)).getD (i / 8) 0 := by rw [rd, e]
      rw [e2, e, or_at _ _ _ hr8 hlast.1 hlast.2 hc.1 hc.2, ← hs]
      exact hnext
theorem words_f (b : List Int) (hb : ∀ c ∈ b, 0 ≤ c ∧ c < 256) (hl : b.length ≤ 100000000) (k : Nat) (hk : b.length < k) : bits_Words.f k b = some (ws b) := by
  unfold bits_Words.f
  have := words_l b hb hl b.length 0 k (by omega) (by omega) hk
  rw [List.take_zero, ws_nil] at this
  exact this

theorem shr8 (x : Int) (r : Nat) (hr : r < 8) : shr .u64 x ((8 * r : Nat) : Int) = x / 256 ^ r := by
  unfold shr
  have : min (((8 * r : Nat) : Int).toNat) IntKind.u64.bits = 8 * r := by
    rw [Int.toNat_natCast]; apply Nat.min_eq_left; show _ ≤ 64; omega
  rw [this, pow256]
theorem bs_at (w : List Int) (i : Nat) (hi : i < 8 * w.length) : (shr .u64 (rd w ((i / 8 : Nat) : Int)) ((8 * (i % 8) : Nat) : Int)) % 256 = (bs w)[i]'(by rw [bs_len]; exact hi) := by
  have hl : i / 8 < w.length := by omega
  rw [shr8 _ _ (Nat.mod_lt _ (by decide)), bs_get w i hi, rd, Int.toNat_natCast, List.getD_eq_getElem?_getD, List.getElem?_eq_getElem hl]; rfl
/-- What Bytes tells: the bytes and the error. -/
def bytesIs (w : List Int) (n : Int) : List Int × Option Int :=
  if n < 0 ∨ n > 8 * w.length ∨ 8 * w.length - n ≥ 8 then ([], some 14)
  else if (bs w).drop n.toNat = List.replicate (8 * w.length - n.toNat) 0 then ((bs w).take n.toNat, none) else ([], some 14)
theorem drop_zeros (l : List Int) (n i : Nat) (hi : i < l.length) (hn : n ≤ i) (hz : (l.take i).drop n = List.replicate (i - n) 0) : (l[i] = 0 → (l.take (i + 1)).drop n = List.replicate (i + 1 - n) 0) ∧ (l[i] ≠ 0 → l.drop n ≠ List.replicate (l.length - n) 0) := by
  constructor
  · intro h0
    rw [List.take_succ_eq_append_getElem hi, List.drop_append_of_le_length (by simp; omega), hz, h0, show i + 1 - n = (i - n) + 1 from by omega, List.replicate_succ']
  · intro h0 h
    have : (l.drop n)[i - n]? = some l[i] := by rw [List.getElem?_drop, show n + (i - n) = i from by omega, List.getElem?_eq_getElem hi]
    rw [h, List.getElem?_replicate] at this
    split at this
    · exact h0 (Option.some.inj this).symm
    · simp at this
theorem bytes_l (w : List Int) (hl : w.length ≤ 100000000) (n : Nat) (hn : n ≤ 8 * w.length) (d : Nat) : ∀ (i k : Nat), i ≤ 8 * w.length → 8 * w.length - i = d → d < k → ((bs w).take i).drop n = List.replicate (i - n) 0 →
    bits_Bytes.l0 k w (n : Int) ((bs w).take (min i n)) ((8 * w.length : Nat) : Int) (i : Int) = some (if (bs w).drop n = List.replicate (8 * w.length - n) 0 then ((bs w).take n, none) else ([], some 14)) := by
  induction d with
  | zero =>
    intro i k hi hd hk hz
    obtain ⟨k, rfl⟩ : ∃ m, k = m + 1 := ⟨k - 1, by omega⟩
    have hi' : i = 8 * w.length := by omega
    rw [List.take_of_length_le (by rw [bs_len]; omega), hi'] at hz
    rw [bits_Bytes.l0, if_neg (by omega), if_pos hz, Nat.min_eq_right (by omega)]
  | succ d ih =>
    intro i k hi hd hk hz
    obtain ⟨k, rfl⟩ : ∃ m, k = m + 1 := ⟨k - 1, by omega⟩
    have hlt : i < 8 * w.length := by omega
    have hlt' : i < (bs w).length := by rw [bs_len]; exact hlt
    have hw2 : wrap64 ((i : Int) + 1) = ((i + 1 : Nat) : Int) := by unfold wrap64; omega
    rw [bits_Bytes.l0, if_pos (by omega), tdiv8 i (by omega), tmod8 i, mul8 i, hw2, bs_at w i hlt, if_pos (by omega), if_pos (by omega), if_pos (by omega)]
    clear hw2
    by_cases h : i < n
    · rw [if_pos (by omega), if_pos (by simp [bs_len]; omega)]
      have e : (bs w).take (min i n) ++ [(bs w)[i]] = (bs w).take (min (i + 1) n) := by
        rw [Nat.min_eq_left (by omega), Nat.min_eq_left (by omega), List.take_succ_eq_append_getElem hlt']
      rw [e]
      refine ih (i + 1) k (by omega) (by omega) (by omega) ?_
      rw [List.drop_eq_nil_of_le (by simp; omega), show i + 1 - n = 0 from by omega]; rfl
    · rw [if_neg (by omega)]
      have hd := drop_zeros (bs w) n i hlt' (by omega) hz
      by_cases h0 : (bs w)[i] = 0
      · rw [if_pos h0]
        have e : (bs w).take (min i n) = (bs w).take (min (i + 1) n) := by congr 1; omega
        rw [e]
        exact ih (i + 1) k (by omega) (by omega) (by omega) (hd.1 h0)
      · have := hd.2 h0
        rw [bs_len] at this
        rw [if_neg h0, if_neg this]
theorem bytes_f (w : List Int) (hl : w.length ≤ 100000000) (n : Int) (hn : n ≤ 1099511627776) (hn0 : -9223372036854775808 ≤ n) (k : Nat) (hk : 8 * w.length + 1 < k) : bits_Bytes.f k w n = some (bytesIs w n) := by
  obtain ⟨k, rfl⟩ : ∃ m, k = m + 1 := ⟨k - 1, by omega⟩
  have hw : wrap64 (8 * (w.length : Int)) = ((8 * w.length : Nat) : Int) := by unfold wrap64; omega
  unfold bits_Bytes.f bytesIs
  rw [hw]
  by_cases h0 : n < 0
  · rw [if_pos h0, bits_Bytes.j0, if_pos rfl, if_pos (.inl h0)]
  by_cases h1 : n > 8 * (w.length : Int)
  · rw [if_neg h0, if_pos (by omega), bits_Bytes.j0, if_pos rfl, if_pos (.inr (.inl h1))]
  have hs : wrap64 (((8 * w.length : Nat) : Int) - n) = 8 * (w.length : Int) - n := by unfold wrap64; omega
  rw [if_neg h0, if_neg (by omega), hs, bits_Bytes.j0]
  by_cases h2 : 8 * (w.length : Int) - n ≥ 8
  · rw [if_pos (by simpa using h2), if_pos (.inr (.inr h2))]
  · rw [if_neg (by simpa using h2), if_neg (by omega)]
    obtain ⟨m, rfl⟩ := Int.eq_ofNat_of_zero_le (show 0 ≤ n by omega)
    rw [Int.toNat_natCast]
    have := bytes_l w hl m (by omega) (8 * w.length) 0 k (by omega) (by omega) (by omega) (by simp)
    rw [hw]
    simpa using this

theorem refbytes_l (w : List Int) (hl : w.length ≤ 100000000) (n : Nat) (hn : n ≤ 8 * w.length) (d : Nat) : ∀ (i k : Nat), i ≤ 8 * w.length → 8 * w.length - i = d → d < k → ((bs w).take i).drop n = List.replicate (i - n) 0 →
    dolmenref1_Bytes.l0 k w (n : Int) ((bs w).take (min i n)) (i : Int) = some (if (bs w).drop n = List.replicate (8 * w.length - n) 0 then ((bs w).take n, 0) else ([], 14)) := by
  have hw : wrap64 (8 * (w.length : Int)) = ((8 * w.length : Nat) : Int) := by unfold wrap64; omega
  induction d with
  | zero =>
    intro i k hi hd hk hz
    obtain ⟨k, rfl⟩ : ∃ m, k = m + 1 := ⟨k - 1, by omega⟩
    have hi' : i = 8 * w.length := by omega
    rw [List.take_of_length_le (by rw [bs_len]; omega), hi'] at hz
    rw [dolmenref1_Bytes.l0, hw, if_neg (by omega), if_pos hz, Nat.min_eq_right (by omega)]
  | succ d ih =>
    intro i k hi hd hk hz
    obtain ⟨k, rfl⟩ : ∃ m, k = m + 1 := ⟨k - 1, by omega⟩
    have hlt : i < 8 * w.length := by omega
    have hlt' : i < (bs w).length := by rw [bs_len]; exact hlt
    have ib : i < 4611686018427387904 := by omega
    rw [dolmenref1_Bytes.l0, hw, if_pos (by omega), tdiv8 i ib, tmod8 i, mul8 i, wrap_succ i ib, bs_at w i hlt, if_pos (by omega), if_pos (by omega), if_pos (by omega)]
    by_cases h : i < n
    · rw [if_pos (by omega), if_pos (by simp [bs_len]; omega)]
      have e : (bs w).take (min i n) ++ [(bs w)[i]] = (bs w).take (min (i + 1) n) := by
        rw [Nat.min_eq_left (by omega), Nat.min_eq_left (by omega), List.take_succ_eq_append_getElem hlt']
      rw [e]
      refine ih (i + 1) k (by omega) (by omega) (by omega) ?_
      rw [List.drop_eq_nil_of_le (by simp; omega), show i + 1 - n = 0 from by omega]; rfl
    · rw [if_neg (by omega)]
      have hd := drop_zeros (bs w) n i hlt' (by omega) hz
      by_cases h0 : (bs w)[i] = 0
      · rw [if_pos h0]
        have e : (bs w).take (min i n) = (bs w).take (min (i + 1) n) := by congr 1; omega
        rw [e]
        exact ih (i + 1) k (by omega) (by omega) (by omega) (hd.1 h0)
      · have := hd.2 h0
        rw [bs_len] at this
        rw [if_neg h0, if_neg this]
def refBytesIs (w : List Int) (n : Int) : List Int × Int := ((bytesIs w n).1, match (bytesIs w n).2 with | none => 0 | some c => c)
theorem refbytes_f (w : List Int) (hl : w.length ≤ 100000000) (n : Int) (hn : n ≤ 1099511627776) (hn0 : -9223372036854775808 ≤ n) (k : Nat) (hk : 8 * w.length + 1 < k) : dolmenref1_Bytes.f k w n = some (refBytesIs w n) := by
  obtain ⟨k, rfl⟩ : ∃ m, k = m + 1 := ⟨k - 1, by omega⟩
  have hw : wrap64 (8 * (w.length : Int)) = ((8 * w.length : Nat) : Int) := by unfold wrap64; omega
  unfold dolmenref1_Bytes.f refBytesIs bytesIs
  rw [hw]
  by_cases h0 : n < 0
  · rw [if_pos h0, dolmenref1_Bytes.j0, if_pos rfl, if_pos (.inl h0)]
  obtain ⟨m, rfl⟩ := Int.eq_ofNat_of_zero_le (show 0 ≤ n by omega)
  have hs : wrap64 ((m : Int) + 7) = ((m + 7 : Nat) : Int) := by unfold wrap64; omega
  rw [if_neg h0, hs, tdiv8 (m + 7) (by omega)]
  clear hs
  by_cases h1 : (((m + 7) / 8 : Nat) : Int) = (w.length : Int)
  · rw [if_pos h1, dolmenref1_Bytes.j0]
    by_cases h2 : (m : Int) > ((8 * w.length : Nat) : Int)
    · rw [if_pos (by simpa using h2), if_pos (by omega)]
    · rw [if_neg (by simpa using h2), if_neg (by omega), Int.toNat_natCast]
      have := refbytes_l w hl m (by omega) (8 * w.length) 0 k (by omega) (by omega) (by omega) (by simp)
      rw [Nat.zero_min, List.take_zero] at this
      rw [show ((0 : Nat) : Int) = (0 : Int) from rfl] at this
      rw [this]
      split <;> rfl
  · rw [if_neg h1, dolmenref1_Bytes.j0, if_pos rfl, if_pos (by omega)]
theorem refwords_l (b : List Int) (hb : ∀ c ∈ b, 0 ≤ c ∧ c < 256) (hl : b.length ≤ 100000000) (d : Nat) : ∀ (i k : Nat), i ≤ b.length → b.length - i = d → d < k →
    dolmenref1_Words.l0 k b (ws (b.take i) ++ List.replicate ((b.length + 7) / 8 - (i + 7) / 8) 0) (i : Int) = some (ws b) := by
  induction d with
  | zero =>
    intro i k hi hd hk
    obtain ⟨k, rfl⟩ : ∃ m, k = m + 1 := ⟨k - 1, by omega⟩
    obtain rfl : i = b.length := by omega
    rw [dolmenref1_Words.l0, if_neg (by omega), List.take_of_length_le (by omega), Nat.sub_self]; simp
  | succ d ih =>
    intro i k hi hd hk
    obtain ⟨k, rfl⟩ : ∃ m, k = m + 1 := ⟨k - 1, by omega⟩
    have hlt : i < b.length := by omega
    have c1 : (i : Int) < (b.length : Int) := by omega
    have c0 : 0 ≤ (i : Int) := by omega
    have c2 : (0 : Int) ≤ ((8 * (i % 8) : Nat) : Int) := by omega
    have c3 : (0 : Int) ≤ ((i / 8 : Nat) : Int) := by omega
    have ib : i < 4611686018427387904 := by omega
    have hr8 : i % 8 < 8 := Nat.mod_lt _ (by decide)
    have hti : (b.take i).length = i := by simp; omega
    have hwl : (ws (b.take i)).length = (i + 7) / 8 := by rw [ws_len, hti]
    have e : (((i / 8 : Nat) : Int)).toNat = i / 8 := by omega
    have hnext := ih (i + 1) k (by omega) (by omega) (by omega)
    clear ih
    have c4 : ((i / 8 : Nat) : Int) < (((ws (b.take i) ++ List.replicate ((b.length + 7) / 8 - (i + 7) / 8) (0 : Int)).length : Nat) : Int) := by
      rw [List.length_append, hwl, List.length_replicate]; omega
    have z1 : i % 8 = 0 → i / 8 = (ws (b.take i)).length ∧ (b.length + 7) / 8 - (i + 7) / 8 = (b.length + 7) / 8 - (i + 1 + 7) / 8 + 1 := by rw [hwl]; omega
    have z2 : i % 8 ≠ 0 → i / 8 < (ws (b.take i)).length ∧ (b.length + 7) / 8 - (i + 7) / 8 = (b.length + 7) / 8 - (i + 1 + 7) / 8 := by rw [hwl]; omega
    have hc := hb b[i] (List.getElem_mem hlt)
    have hrd : rd b (i : Int) = b[i] := by simp [rd, hlt]
    have hs : ws (b.take (i + 1)) = ws (b.take i ++ [b[i]]) := by rw [List.take_succ_eq_append_getElem hlt]
    rw [ws_snoc, hti] at hs
    rw [dolmenref1_Words.l0, if_pos c1, tdiv8 i ib, tmod8 i, mul8 i, hrd, wrap_succ i ib, shl8 _ _ hr8 hc.1 hc.2, if_pos c3, if_pos c4, if_pos c0, if_pos c2]
    clear hrd
    by_cases h8 : i % 8 = 0
    · rw [if_pos h8] at hs
      obtain ⟨y2, y3⟩ := z1 h8
      have e2 : rd (ws (b.take i) ++ List.replicate ((b.length + 7) / 8 - (i + 7) / 8) 0) ((i / 8 : Nat) : Int) = 0 := by rw [rd, e, y2, y3, List.replicate_succ]; simp
      rw [e2, e, h8, or_at 0 _ 0 (by decide) (by decide) (by decide) hc.1 hc.2, y2]
      rw [List.set_append_right _ _ (Nat.le_refl _), Nat.sub_self, y3, List.replicate_succ, List.set_cons_zero, Int.pow_zero, Int.mul_one, Int.zero_add]
      rw [hs] at hnext
      rw [List.append_assoc] at hnext
      exact hnext
    · rw [if_neg h8] at hs
      obtain ⟨y2, y3⟩ := z2 h8
      have hlast := ws_last (b.take i) (fun c hc => hb c (List.take_subset _ _ hc)) (by rw [hti]; exact h8)
      rw [hti] at hlast
      have e2 : rd (ws (b.take i) ++ List.replicate ((b.length + 7) / 8 - (i + 7) / 8) 0) ((i / 8 : Nat) : Int) = (ws (b.take i)).getD (i / 8) 0 := by
        rw [rd, e, List.getD_eq_getElem?_getD, List.getD_eq_getElem?_getD, List.getElem?_append_left y2]
      rw [e2, e, or_at _ _ _ hr8 hlast.1 hlast.2 hc.1 hc.2, List.set_append_left _ _ y2, ← hs, y3]
      exact hnext
theorem refwords_f (b : List Int) (hb : ∀ c ∈ b, 0 ≤ c ∧ c < 256) (hl : b.length ≤ 100000000) (k : Nat) (hk : b.length < k) : dolmenref1_Words.f k b = some (ws b) := by
  unfold dolmenref1_Words.f
  have h := refwords_l b hb hl b.length 0 k (by omega) (by omega) hk
  rw [List.take_zero, ws_nil, List.nil_append, show (b.length + 7) / 8 - (0 + 7) / 8 = (b.length + 7) / 8 from by omega] at h
  have hs : wrap64 ((b.length : Int) + 7) = ((b.length + 7 : Nat) : Int) := by unfold wrap64; omega
  rw [hs, tdiv8 (b.length + 7) (by omega), if_pos (by omega), Int.toNat_natCast, if_pos (by omega)]
  exact h
theorem words_eq_l (a : List Int) (hl : a.length ≤ 100000000) (d : Nat) : ∀ i k : Nat, i ≤ a.length → a.length - i = d → d < k → dolmenref9_Words.l0 k a a (i : Int) = some true := by
  induction d with
  | zero =>
    intro i k hi hd hk
    obtain ⟨k, rfl⟩ : ∃ m, k = m + 1 := ⟨k - 1, by omega⟩
    rw [dolmenref9_Words.l0, if_neg (by omega)]
  | succ d ih =>
    intro i k hi hd hk
    obtain ⟨k, rfl⟩ : ∃ m, k = m + 1 := ⟨k - 1, by omega⟩
    rw [dolmenref9_Words.l0, if_pos (by omega), if_pos (by omega), if_pos (by omega), if_pos rfl, wrap_succ i (by omega)]
    exact ih (i + 1) k (by omega) (by omega) (by omega)
theorem words_eq (a : List Int) (hl : a.length ≤ 100000000) (k : Nat) (hk : a.length < k) : dolmenref9_Words.f k a a = some true := by
  unfold dolmenref9_Words.f
  rw [if_pos rfl]
  exact words_eq_l a hl a.length 0 k (by omega) (by omega) hk

end BitsAsksAid
open BitsAsksAid
theorem asks_l (w : List Int) (hw : ∀ x ∈ w, (Lit.int .u64 x).wf = true) (hl : w.length ≤ 1000) (d : Nat) : ∀ i k : Nat, i ≤ w.length → w.length - i = d → d + 11 < k → dolmenlaw1_BitsAsks.l0 k w (i : Int) = some true := by
  induction d with
  | zero =>
    intro i k hi hd hk
    obtain ⟨k, rfl⟩ : ∃ m, k = m + 1 := ⟨k - 1, by omega⟩
    rw [dolmenlaw1_BitsAsks.l0, if_neg (by omega), at_rounds dolmenlaw1_awake.mono (show 10 ≤ k by omega) awake_true]; rfl
  | succ d ih =>
    intro i k hi hd hk
    obtain ⟨k, rfl⟩ : ∃ m, k = m + 1 := ⟨k - 1, by omega⟩
    have hlt : i < w.length := by omega
    have hnext := ih (i + 1) k (by omega) (by omega) (by omega)
    have hrd : rd w (i : Int) = w[i] := by simp [rd, hlt]
    obtain ⟨x, hx⟩ := of_u64 _ (hw w[i] (List.getElem_mem hlt))
    rw [dolmenlaw1_BitsAsks.l0, if_pos (by omega), if_pos (by omega), hrd, hx, turn_f, Option.bind_some, refturn_f x k (by omega), Option.bind_some, if_pos rfl, wrap_succ i (by omega)]
    exact hnext
theorem BitsAsks : dolmenlaw1_BitsAsks.Pure := by
  intro b w n hmax hsz hb hmaxw hszw hw hn
  have hb' : ∀ c ∈ b, 0 ≤ c ∧ c < 256 := by
    intro c hc
    have := hb c hc
    simp [Lit.wf, IntKind.min, IntKind.max, IntKind.bits, IntKind.signed] at this
    omega
  simp [Lit.wf, IntKind.min, IntKind.max, IntKind.bits, IntKind.signed] at hn
  have haw : ∀ k, 10 ≤ k → dolmenlaw1_awake.f k = some true := fun k h => at_rounds dolmenlaw1_awake.mono h awake_true
  refine ⟨5000, ?_⟩
  unfold dolmenlaw1_BitsAsks.f
  by_cases g1 : (b.length : Int) > 2000
  · rw [if_pos g1, dolmenlaw1_BitsAsks.j0, if_pos rfl, haw _ (by omega)]; rfl
  by_cases g2 : (w.length : Int) > 200
  · rw [if_neg g1, if_pos g2, dolmenlaw1_BitsAsks.j0, if_pos rfl, haw _ (by omega)]; rfl
  by_cases g3 : n > 1099511627776
  · rw [if_neg g1, if_neg g2, dolmenlaw1_BitsAsks.j0, if_pos (by simpa using g3), haw _ (by omega)]; rfl
  rw [if_neg g1, if_neg g2, dolmenlaw1_BitsAsks.j0, if_neg (by simpa using g3)]
  rw [bytes_f w (by omega) n (by omega) hn.1 _ (by omega), Option.bind_some, refbytes_f w (by omega) n (by omega) hn.1 _ (by omega), Option.bind_some]
  have hcode : dolmenalike_Code.f (bytesIs w n).2 = some (refBytesIs w n).2 := by
    have h14 : codeOf 14 = 14 := by decide
    unfold refBytesIs bytesIs
    split
    · simp [dolmenalike_Code.f, h14]
    · split <;> simp [dolmenalike_Code.f, h14]
  rw [hcode, Option.bind_some, if_pos rfl, if_pos (show (strOfNums (bytesIs w n).1).toList = (strOfNums (refBytesIs w n).1).toList from rfl)]
  have hwl := ws_len b
  rw [words_f b hb' (by omega) _ (by omega), Option.bind_some, refwords_f b hb' (by omega) _ (by omega), Option.bind_some, words_eq _ (by omega) _ (by omega), Option.bind_some]
  rw [dolmenlaw1_BitsAsks.j1, if_neg (by simp)]
  exact asks_l w hw (by omega) w.length 0 _ (by omega) (by omega) (by omega)
end Go.Proofs.Ytfonkhikdaegpaa.Pure
