/- CrcSeals (chapter 2): unlike numbers have unlike seals; what is sealed is told again; a word of noughts is none. Proved for every two words, no further condition. -/
import Derived.Test.YtafefcogpdacoaaPCrcSealsx1
import Derived.Test.YtafefcogpdacoaaCrc
namespace Go.Proofs.Ytafefcogpdacoaa.Pure
open Go.RowKit Go.Proofs.Ytafefcogpdacoaa.PCrcSeals Go.Proofs.YtafefcogpdacoaaW.PrintWords Go.Proofs.YtafefcogpdacoaaW.PrintLast Go.Proofs.YtafefcogpdacoaaW.PrintMore Go.Proofs.Ytafefcogpdacoaa.Crc
namespace CrcSealsAid
theorem rnd_b (r : BitVec 32) : rnd (r.toNat : Int) = ((rndB r).toNat : Int) := by
  unfold rnd rndB
  have e1 : (1 : Int) = ((1#32).toNat : Int) := by decide
  have e2 : (3988292384 : Int) = (poly.toNat : Int) := by decide
  rw [e1, e2, b32_half, b32_and, b32_neg, b32_and, b32_xor]
theorem rnds_b (n : Nat) (r : BitVec 32) : rnds n (r.toNat : Int) = ((rndsB n r).toNat : Int) := by
  induction n generalizing r with
  | zero => rfl
  | succ n ih => rw [rnds, rnd_b, ih]; rfl
theorem u32_of (c : Int) (h : 0 ≤ c ∧ c < 256) : IntKind.u32.wrap c = ((BitVec.ofNat 32 c.toNat).toNat : Int) := by
  rw [BitVec.toNat_ofNat]
  obtain ⟨n, rfl⟩ := Int.eq_ofNat_of_zero_le h.1
  rw [b32_wrap_nat, Int.toNat_natCast]
theorem byt_b (r : BitVec 32) (c : Int) (h : 0 ≤ c ∧ c < 256) : byt (r.toNat : Int) c = ((bytB r c).toNat : Int) := by
  unfold byt bytB
  rw [u32_of c h, b32_xor, rnds_b]
theorem byts_b (l : List Int) (hl : ∀ c ∈ l, 0 ≤ c ∧ c < 256) (r : BitVec 32) : byts (r.toNat : Int) l = ((bytsB r l).toNat : Int) := by
  induction l generalizing r with
  | nil => rfl
  | cons c l ih =>
    have := ih (fun x hx => hl x (by simp [hx])) (bytB r c)
    simp only [byts, List.foldl_cons] at this ⊢
    rw [byt_b r c (hl c (by simp)), this]; rfl
theorem addT_b (t : BitVec 32) (l : List Int) (hl : ∀ c ∈ l, 0 ≤ c ∧ c < 256) : addT (t.toNat : Int) l = ((bytsB (t ^^^ 4294967295#32) l ^^^ 4294967295#32).toNat : Int) := by
  unfold addT
  have e : (4294967295 : Int) = ((4294967295#32).toNat : Int) := by decide
  rw [e, b32_xor, byts_b l hl, b32_xor]
/-- The sum of bytes. -/
def crcOf (l : List Int) : BitVec 32 := bytsB 4294967295#32 l ^^^ 4294967295#32
theorem addT_zero (l : List Int) (hl : ∀ c ∈ l, 0 ≤ c ∧ c < 256) : addT 0 l = ((crcOf l).toNat : Int) := by
  have := addT_b 0#32 l hl
  rw [BitVec.zero_xor] at this
  exact this
theorem crcOf_set (l : List Int) (i : Nat) (x : Int) (hi : i < l.length) (hl : ∀ c ∈ l, 0 ≤ c ∧ c < 256) (hx : 0 ≤ x ∧ x < 256) (hne : x ≠ l[i]) : crcOf (l.set i x) ≠ crcOf l := by
  intro h
  exact bytsB_set _ l i x hi hl hx hne (xor_left_inj h)
theorem crcOf_f (l : List Int) (hl : ∀ c ∈ l, 0 ≤ c ∧ c < 256) : crc_Of.f l = some ((crcOf l).toNat : Int) := by rw [crc_Of.f, addT_zero l hl]
theorem wf_u8 {l : List Int} (h : ∀ x ∈ l, (Lit.int .u8 x).wf = true) : ∀ c ∈ l, 0 ≤ c ∧ c < 256 := by
  intro c hc
  have := h c hc
  simp [Lit.wf, IntKind.min, IntKind.max, IntKind.bits, IntKind.signed] at this
  omega

theorem u64_wrap_in (n : Int) (h0 : 0 ≤ n) (h1 : n < 18446744073709551616) : IntKind.u64.wrap n = n := by
  simp [IntKind.wrap, IntKind.bits, IntKind.signed]; omega
theorem and_low (x : Int) (h0 : 0 ≤ x) (h1 : x < 18446744073709551616) : Go.bits .and .u64 x 4294967295 = x % 4294967296 := by
  exact bits_mask .u64 64 (by decide) (fun n h0 h1 => u64_wrap_in n h0 h1) 32 (by decide) x h0 h1
theorem or_comm64 (x y : Int) : Go.bits .or .u64 x y = Go.bits .or .u64 y x := by
  unfold Go.bits
  simp only [BitVec.or_comm]
theorem or_high (s l : Int) (hs0 : 0 ≤ s) (hs1 : s < 4294967296) (hl0 : 0 ≤ l) (hl1 : l < 4294967296) : Go.bits .or .u64 (IntKind.u64.wrap (IntKind.u64.wrap s * 4294967296)) l = s * 4294967296 + l := by
  rw [u64_wrap_in s hs0 (by omega), u64_wrap_in (s * 4294967296) (by omega) (by omega)]
  exact bits_join .u64 64 (by decide) (fun n h0 h1 => u64_wrap_in n h0 h1) 32 (s * 4294967296) l (by omega) (by
    rw [show ((2 : Int) ^ 32) = 4294967296 from rfl]; omega) (by rw [show ((2 : Int) ^ 64) = 18446744073709551616 from rfl]; omega) hl0 hl1 (by rw [show ((2 : Int) ^ 64) = 18446744073709551616 from rfl]; omega)
/-- A number's first four bytes. -/
def bytes4 (l : Int) : List Int := [l % 256, l / 256 % 256, l / 65536 % 256, l / 16777216 % 256]
theorem bytes4_range (l : Int) : ∀ c ∈ bytes4 l, 0 ≤ c ∧ c < 256 := by
  intro c hc
  simp only [bytes4, List.mem_cons, List.not_mem_nil, or_false] at hc
  rcases hc with rfl | rfl | rfl | rfl <;> omega
theorem bytes_four (x : Int) : crc_bytes.f 5 x 4 = some (bytes4 x) := by
  simp only [crc_bytes.f, crc_bytes.l0]
  simp [wrap64, shr, IntKind.bits, bytes4]
theorem bytes_four_k (x : Int) (k : Nat) (hk : 5 ≤ k) : crc_bytes.f k x 4 = some (bytes4 x) := at_rounds (fun k => crc_bytes.mono x 4 k) hk (bytes_four x)
/-- The sum of a number's four bytes; the number sealed. -/
def sumOf (l : Int) : Int := ((crcOf (bytes4 l)).toNat : Int)
def sealN (l : Int) : Int := sumOf l * 4294967296 + l
theorem sumOf_range (l : Int) : 0 ≤ sumOf l ∧ sumOf l < 4294967296 := by
  unfold sumOf
  have := (crcOf (bytes4 l)).isLt
  omega
theorem seal_f (x : Int) (h0 : 0 ≤ x) (h1 : x < 18446744073709551616) (k : Nat) (hk : 5 ≤ k) : crc_Seal.f k x = some (sealN (x % 4294967296)) := by
  unfold crc_Seal.f
  have hs := sumOf_range (x % 4294967296)
  rw [and_low x h0 h1, bytes_four_k _ k hk, Option.bind_some, crcOf_f _ (bytes4_range _), Option.bind_some]
  show some (Go.bits .or .u64 (IntKind.u64.wrap (IntKind.u64.wrap (sumOf (x % 4294967296)) * 4294967296)) (x % 4294967296)) = _
  rw [or_high _ _ hs.1 hs.2 (by omega) (by omega)]; rfl
theorem sealed_f (x : Int) (h0 : 0 ≤ x) (h1 : x < 18446744073709551616) (k : Nat) (hk : 5 ≤ k) : crc_Sealed.f k x = some (if sealN (x % 4294967296) = x then (x % 4294967296, true) else (0, false)) := by
  unfold crc_Sealed.f
  rw [seal_f x h0 h1 k hk, Option.bind_some]
  split <;> rfl
theorem sealN_range (l : Int) (h0 : 0 ≤ l) (h1 : l < 4294967296) : 0 ≤ sealN l ∧ sealN l < 18446744073709551616 := by
  have := sumOf_range l
  unfold sealN; omega
theorem sealN_low (l : Int) (h0 : 0 ≤ l) (h1 : l < 4294967296) : sealN l % 4294967296 = l := by unfold sealN; omega
theorem sealN_high (l : Int) (h0 : 0 ≤ l) (h1 : l < 4294967296) : sealN l / 4294967296 = sumOf l := by unfold sealN; omega
theorem wf_u64 {x : Int} (h : (Lit.int .u64 x).wf = true) : 0 ≤ x ∧ x < 18446744073709551616 := by
  simp [Lit.wf, IntKind.min, IntKind.max, IntKind.bits, IntKind.signed] at h
  omega
theorem sum_zero : sumOf 0 ≠ 0 := by decide +kernel

end CrcSealsAid
open CrcSealsAid
theorem CrcSeals : dolmenlaw2_CrcSeals.Pure := by
  intro a b ha hb
  have ha := wf_u64 ha
  have hb := wf_u64 hb
  refine ⟨5, ?_⟩
  unfold dolmenlaw2_CrcSeals.f
  have la : 0 ≤ a % 4294967296 ∧ a % 4294967296 < 4294967296 := by omega
  have lb : 0 ≤ b % 4294967296 ∧ b % 4294967296 < 4294967296 := by omega
  have ra := sealN_range _ la.1 la.2
  have hz : ¬ sealN (0 % 4294967296) = 0 := by
    have := sum_zero
    have h2 := sumOf_range 0
    unfold sealN
    rw [show (0 : Int) % 4294967296 = 0 from rfl]
    omega
  rw [seal_f a ha.1 ha.2 5 (by omega), Option.bind_some, seal_f b hb.1 hb.2 5 (by omega), Option.bind_some, sealed_f _ ra.1 ra.2 5 (by omega), Option.bind_some, sealN_low _ la.1 la.2, if_pos rfl,
    sealed_f 0 (by omega) (by omega) 5 (by omega), Option.bind_some, if_neg hz]
  have heq : (sealN (a % 4294967296) == sealN (b % 4294967296)) = (a % 4294967296 == b % 4294967296) := by
    rw [Bool.eq_iff_iff, beq_iff_eq, beq_iff_eq]
    constructor
    · intro h
      have := congrArg (· % 4294967296) h
      simp only [sealN_low _ la.1 la.2, sealN_low _ lb.1 lb.2] at this
      exact this
    · intro h; rw [h]
  rw [and_low a ha.1 ha.2, and_low b hb.1 hb.2, heq, u64_wrap_in _ la.1 (by omega), seal_f _ ra.1 ra.2 5 (by omega), sealN_low _ la.1 la.2]
  simp [dolmenlaw2_awake.f]
end Go.Proofs.Ytafefcogpdacoaa.Pure
