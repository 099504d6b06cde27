/- BitsTurns (chapter 1): turned twice a word is as it was; turned, its first byte is the last one. Proved for every two words, no further condition. -/
import Derived.Test.YtfonkhikdaegpaaPBitsTurnsx1
namespace Go.Proofs.Ytfonkhikdaegpaa.Pure
open Go.RowKit Go.Proofs.Ytfonkhikdaegpaa.PBitsTurns Go.Proofs.YtfonkhikdaegpaaW.PrintWords Go.Proofs.YtfonkhikdaegpaaW.PrintLast

theorem u64_wrap_nat (n : Nat) : IntKind.u64.wrap (n : Int) = ((n % 2 ^ 64 : Nat) : Int) := by
  simp [IntKind.wrap, IntKind.bits, IntKind.signed]
theorem u64_and (x y : BitVec 64) : Go.bits .and .u64 (x.toNat : Int) (y.toNat : Int) = ((x &&& y).toNat : Int) := by
  unfold Go.bits
  simp only [IntKind.bits, BitVec.ofInt_natCast, BitVec.ofNat_toNat, BitVec.setWidth_eq]
  rw [u64_wrap_nat, Nat.mod_eq_of_lt (BitVec.isLt _)]; rfl
theorem u64_or (x y : BitVec 64) : Go.bits .or .u64 (x.toNat : Int) (y.toNat : Int) = ((x ||| y).toNat : Int) := by
  unfold Go.bits
  simp only [IntKind.bits, BitVec.ofInt_natCast, BitVec.ofNat_toNat, BitVec.setWidth_eq]
  rw [u64_wrap_nat, Nat.mod_eq_of_lt (BitVec.isLt _)]; rfl
theorem u64_shr (x : BitVec 64) (k : Nat) : (x.toNat : Int) / ((2 ^ k : Nat) : Int) = ((x >>> k).toNat : Int) := by
  rw [BitVec.toNat_ushiftRight, Nat.shiftRight_eq_div_pow]; simp
theorem u64_shl (x : BitVec 64) (k : Nat) : IntKind.u64.wrap ((x.toNat : Int) * ((2 ^ k : Nat) : Int)) = ((x <<< k).toNat : Int) := by
  rw [BitVec.toNat_shiftLeft, Nat.shiftLeft_eq, ← Int.natCast_mul, u64_wrap_nat]

def rev8 (x : BitVec 64) : BitVec 64 :=
  let a := ((x >>> 8) &&& 71777214294589695#64) ||| ((x &&& 71777214294589695#64) <<< 8)
  let b := ((a >>> 16) &&& 281470681808895#64) ||| ((a &&& 281470681808895#64) <<< 16)
  (b >>> 32) ||| (b <<< 32)

theorem rev_f (x : BitVec 64) : bits_ReverseBytes64.f (x.toNat : Int) = some ((rev8 x).toNat : Int) := by
  unfold bits_ReverseBytes64.f rev8
  have e1 : (71777214294589695 : Int) = ((71777214294589695#64).toNat : Int) := by decide
  have e2 : (281470681808895 : Int) = ((281470681808895#64).toNat : Int) := by decide
  have s8 : (256 : Int) = ((2 ^ 8 : Nat) : Int) := by decide
  have s16 : (65536 : Int) = ((2 ^ 16 : Nat) : Int) := by decide
  have s32 : (4294967296 : Int) = ((2 ^ 32 : Nat) : Int) := by decide
  rw [e1, e2, s8, s16, s32]
  simp only [u64_and, u64_or, u64_shr, u64_shl]

theorem m1_bit : ∀ j : Fin 64, (71777214294589695#64).getLsbD j.val = decide (j.val / 8 % 2 = 0) := by decide +kernel
theorem m2_bit : ∀ j : Fin 64, (281470681808895#64).getLsbD j.val = decide (j.val / 16 % 2 = 0) := by decide +kernel

def a8 (x : BitVec 64) : BitVec 64 := ((x >>> 8) &&& 71777214294589695#64) ||| ((x &&& 71777214294589695#64) <<< 8)
def b8 (a : BitVec 64) : BitVec 64 := ((a >>> 16) &&& 281470681808895#64) ||| ((a &&& 281470681808895#64) <<< 16)
def c8 (b : BitVec 64) : BitVec 64 := (b >>> 32) ||| (b <<< 32)
theorem rev8_eq (x : BitVec 64) : rev8 x = c8 (b8 (a8 x)) := rfl
theorem a8_bit (x : BitVec 64) (i : Nat) (h : i < 64) : (a8 x).getLsbD i = x.getLsbD (if i / 8 % 2 = 0 then i + 8 else i - 8) := by
  unfold a8
  simp only [BitVec.getLsbD_or, BitVec.getLsbD_and, BitVec.getLsbD_ushiftRight, BitVec.getLsbD_shiftLeft]
  rw [m1_bit ⟨i, h⟩]
  by_cases e : i / 8 % 2 = 0
  · rw [if_pos e]
    by_cases l : i < 8
    · simp [e, l, h, Nat.add_comm]
    · have := m1_bit ⟨i - 8, by omega⟩
      simp only at this
      rw [this]
      have : ¬ (i - 8) / 8 % 2 = 0 := by omega
      simp [e, this, Nat.add_comm]
  · rw [if_neg e]
    have l : ¬ i < 8 := by omega
    have := m1_bit ⟨i - 8, by omega⟩
    simp only at this
    rw [this]
    have : (i - 8) / 8 % 2 = 0 := by omega
    simp [e, l, h, this]
theorem b8_bit (x : BitVec 64) (i : Nat) (h : i < 64) : (b8 x).getLsbD i = x.getLsbD (if i / 16 % 2 = 0 then i + 16 else i - 16) := by
  unfold b8
  simp only [BitVec.getLsbD_or, BitVec.getLsbD_and, BitVec.getLsbD_ushiftRight, BitVec.getLsbD_shiftLeft]
  rw [m2_bit ⟨i, h⟩]
  by_cases e : i / 16 % 2 = 0
  · rw [if_pos e]
    by_cases l : i < 16
    · simp [e, l, h, Nat.add_comm]
    · have := m2_bit ⟨i - 16, by omega⟩
      simp only at this
      rw [this]
      have : ¬ (i - 16) / 16 % 2 = 0 := by omega
      simp [e, this, Nat.add_comm]
  · rw [if_neg e]
    have l : ¬ i < 16 := by omega
    have := m2_bit ⟨i - 16, by omega⟩
    simp only at this
    rw [this]
    have : (i - 16) / 16 % 2 = 0 := by omega
    simp [e, l, h, this]
theorem c8_bit (x : BitVec 64) (i : Nat) (h : i < 64) : (c8 x).getLsbD i = x.getLsbD (if i < 32 then i + 32 else i - 32) := by
  unfold c8
  simp only [BitVec.getLsbD_or, BitVec.getLsbD_ushiftRight, BitVec.getLsbD_shiftLeft]
  by_cases l : i < 32
  · simp [l, h, Nat.add_comm]
  · have : 64 ≤ 32 + i := by omega
    simp [l, h, BitVec.getLsbD_of_ge _ _ this]
theorem rev8_bit (x : BitVec 64) (i : Nat) (h : i < 64) : (rev8 x).getLsbD i = x.getLsbD (8 * (7 - i / 8) + i % 8) := by
  rw [rev8_eq, c8_bit _ _ h, b8_bit _ _ (by split <;> omega), a8_bit _ _ (by split <;> split <;> omega)]
  congr 1
  by_cases h1 : i < 32 <;> simp only [h1, if_true, if_false]
  · by_cases h2 : (i + 32) / 16 % 2 = 0 <;> simp only [h2, if_true, if_false] <;> split <;> omega
  · by_cases h2 : (i - 32) / 16 % 2 = 0 <;> simp only [h2, if_true, if_false] <;> split <;> omega
theorem rev8_rev8 (x : BitVec 64) : rev8 (rev8 x) = x := by
  apply BitVec.eq_of_getLsbD_eq
  intro i h
  rw [rev8_bit _ _ h, rev8_bit _ _ (by omega)]
  congr 1; omega
theorem rev8_low (x : BitVec 64) : rev8 x &&& 255#64 = x >>> 56 := by
  apply BitVec.eq_of_getLsbD_eq
  intro i h
  have h255 : ∀ j : Fin 64, (255#64).getLsbD j.val = decide (j.val < 8) := by decide +kernel
  rw [BitVec.getLsbD_and, rev8_bit _ _ h, h255 ⟨i, h⟩, BitVec.getLsbD_ushiftRight]
  by_cases l : i < 8
  · simp only [l, decide_true, Bool.and_true]; congr 1; omega
  · simp only [l, decide_false, Bool.and_false]; rw [BitVec.getLsbD_of_ge _ _ (by omega)]
theorem rev8_high (x : BitVec 64) : (rev8 x) >>> 56 = x &&& 255#64 := by
  have := rev8_low (rev8 x)
  rw [rev8_rev8] at this
  exact this.symm

theorem turn_f (x : BitVec 64) : bits_Turn.f (x.toNat : Int) = some ((rev8 x).toNat : Int) := by
  unfold bits_Turn.f
  rw [rev_f]; rfl
theorem of_u64 (a : Int) (h : (Lit.int .u64 a).wf = true) : ∃ x : BitVec 64, a = (x.toNat : Int) := by
  simp [Lit.wf, IntKind.min, IntKind.max, IntKind.bits, IntKind.signed] at h
  exact ⟨BitVec.ofNat 64 a.toNat, by rw [BitVec.toNat_ofNat]; omega⟩
theorem awake_true : dolmenlaw1_awake.f 10 = some true := by decide +kernel
theorem toNat_cast_inj (x y : BitVec 64) : ((x.toNat : Int) == (y.toNat : Int)) = (x == y) := by
  rw [Bool.eq_iff_iff, beq_iff_eq, beq_iff_eq]
  constructor
  · intro h; exact BitVec.eq_of_toNat_eq (by omega)
  · rintro rfl; rfl
/-- Turned twice a word is as it was; turned, its first byte is the last one. No condition. -/
theorem BitsTurns : dolmenlaw1_BitsTurns.Pure := by
  intro a0 a1 h0 h1
  obtain ⟨x, rfl⟩ := of_u64 a0 h0
  obtain ⟨y, rfl⟩ := of_u64 a1 h1
  refine ⟨10, ?_⟩
  unfold dolmenlaw1_BitsTurns.f
  have e255 : (255 : Int) = ((255#64).toNat : Int) := by decide
  have s56 : (72057594037927936 : Int) = ((2 ^ 56 : Nat) : Int) := by decide
  rw [turn_f, Option.bind_some, turn_f, Option.bind_some, rev8_rev8, if_pos rfl, e255, s56, u64_and, u64_shr, u64_shr, u64_and, rev8_low, if_pos rfl, rev8_high, if_pos rfl, turn_f, Option.bind_some, toNat_cast_inj, toNat_cast_inj, awake_true]
  have : (rev8 x == rev8 y) = (x == y) := by
    rw [Bool.eq_iff_iff, beq_iff_eq, beq_iff_eq]
    constructor
    · intro h; have := congrArg rev8 h; rwa [rev8_rev8, rev8_rev8] at this
    · rintro rfl; rfl
  rw [this]
  simp
end Go.Proofs.Ytfonkhikdaegpaa.Pure
